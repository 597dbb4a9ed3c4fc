/- verify.look. verify.Of. -/
import Derived.Test.YtojobkhidlfeoaaDoorLookA
import Derived.Test.YtojobkhidlfeoaaDoorVerL5
import Derived.Test.YtojobkhidlfeoaaDoorInfoA
import Derived.Test.YtojobkhidlfeoaaDoorCopyV
import Derived.Test.YtojobkhidlfeoaaDoorPMayW
/-! verify.look. -/
namespace Go.Proofs.YtojobkhidlfeoaaDoor
open Go.RowKit

/-- What the region that asks step reads. -/
abbrev Nine (wr w : World) (xb gs j bk o : Nat) (cv mv : Value) (m : Meth) (kc : Nat) (x : Ins) (st : List UInt8) : Prop :=
 wr.cell? ⟨w.heap.size, 0, none⟩ = some cv ∧ wr.cell? ⟨w.heap.size, 1, none⟩ = some mv ∧ wr.cell? ⟨w.heap.size + 1, 3, none⟩ = some (.slice (some ⟨bk, o, none⟩) m.code.length kc) ∧ wr.cell? ⟨xb, 0, none⟩ = some (.slice (some ⟨gs, 0, none⟩) m.code.length m.code.length) ∧ wr.cell? ⟨gs, j, none⟩ = some (.string (bs st)) ∧ wr.cell? ⟨bk, o + j * 4, none⟩ = some (.int .i64 x.op) ∧ wr.cell? ⟨bk, o + j * 4 + 1, none⟩ = some (.int .i64 x.a) ∧ wr.cell? ⟨bk, o + j * 4 + 2, none⟩ = some (.int .i64 x.b) ∧ wr.cell? ⟨bk, o + j * 4 + 3, none⟩ = some (.int .i64 x.n)
theorem Nine.upd {wr w' w : World} {xb gs j bk o : Nat} {cv mv : Value} {m : Meth} {kc : Nat} {x : Ins} {st : List UInt8} (h : Nine wr w xb gs j bk o cv mv m kc x st) (hu : Upd [] wr w') : Nine w' w xb gs j bk o cv mv m kc x st := by
 obtain ⟨h0, h1, h2, h3, h4, h5, h6, h7, h8⟩ := h
 exact ⟨hu.cell h0 (by simp), hu.cell h1 (by simp), hu.cell h2 (by simp), hu.cell h3 (by simp), hu.cell h4 (by simp), hu.cell h5 (by simp), hu.cell h6 (by simp), hu.cell h7 (by simp), hu.cell h8 (by simp)⟩

set_option maxRecDepth 100000 in
set_option maxHeartbeats 8000000 in
theorem look_any (p : Prg) (hok : p.Ok) (k : Nat) (cv mv kv : Value) (E : Nat → Addr) (w : World) (hS : SentAt w E) (hc : ClassAt w cv p.cs) (hm : MethsAt w mv p.ms) (hk : k < p.ms.length) (hcode : CodeAt w kv (p.ms.getD k default).code) :
  Calls Tryd.prog 16 #[.agg #[cv, mv], .int .i64 k, .agg #[.string (p.ms.getD k default).params, .string (p.ms.getD k default).locals, .string (p.ms.getD k default).ret, kv]] w fun e w' => ∃ v, e = .returned v ∧ lookV E w' w.heap.size v (p.ms.getD k default).code.length (lookM p (p.ms.getD k default)) ∧ Upd [] w w' := by
 have HSTEP := Lib.hid (fun (q : Nat) (hq : q < (p.ms.getD k default).code.length) (s : ByteArray) w hS hc hm (hs : s.size ≤ 1000) => step_any p hok k cv mv ((p.ms.getD k default).code.getD q default) s E w hS hc hm hk (hok.op k hk q hq) hs)
 obtain ⟨hcd1, hcd2⟩ := hok.code1 k hk
 have HJ : Hid (∀ q, q < (p.ms.getD k default).code.length → ∀ x ∈ nextL (p.ms.getD k default).code q, 0 ≤ x) := fun q hq => next_ge hok k hk q hq
 have HS := Lib.hid hS
 have HC := Lib.hid hc
 have HM := Lib.hid hm
 have HCODE := Lib.hid hcode
 clear hS hc hm
 generalize p.ms.getD k default = m at *
 obtain ⟨kp, kc, rfl, hkl, hkm, hkx⟩ := hcode
 unfold maxLen at hkm
 have HKX := Lib.hid hkx
 clear hkx
 go_enter Tryd.func16, Tryd.ntmps16
 go_upto_region 1 with fail
 have hS0 := (((Upd.refl [] w).alloc (.cells #[cv, mv] 36)).alloc (.cells #[.string m.params, .string m.locals, .string m.ret, .slice kp m.code.length kc] 32)).alloc (.cells #[.slice none 0 0, .slice none 0 0, .int .i64 0] 68)
 have hp0 := ((((Upd.refl [] _).alloc (.cells #[.string m.params, .string m.locals, .string m.ret, .slice kp m.code.length kc] 32)).alloc (.cells #[.slice none 0 0, .slice none 0 0, .int .i64 0] 68))).heap (heap_alloc_new w (.cells #[cv, mv] 36)) (by simp)
 have hm0 := ((Upd.refl [] _).alloc (.cells #[.slice none 0 0, .slice none 0 0, .int .i64 0] 68)).heap (heap_alloc_new (w.alloc (.cells #[cv, mv] 36)) (.cells #[.string m.params, .string m.locals, .string m.ret, .slice kp m.code.length kc] 32)) (by simp)
 have hr0 := heap_alloc_new ((w.alloc (.cells #[cv, mv] 36)).alloc (.cells #[.string m.params, .string m.locals, .string m.ret, .slice kp m.code.length kc] 32)) (.cells #[.slice none 0 0, .slice none 0 0, .int .i64 0] 68)
 have s1 : (w.alloc (.cells #[cv, mv] 36)).heap.size = w.heap.size + 1 := by simp
 have s2 : ((w.alloc (.cells #[cv, mv] 36)).alloc (.cells #[.string m.params, .string m.locals, .string m.ret, .slice kp m.code.length kc] 32)).heap.size = w.heap.size + 1 + 1 := by simp
 rw [s1] at hm0
 rw [s2] at hr0
 clear s1 s2
 generalize hw0 : ((w.alloc (.cells #[cv, mv] 36)).alloc (.cells #[.string m.params, .string m.locals, .string m.ret, .slice kp m.code.length kc] 32)).alloc (.cells #[.slice none 0 0, .slice none 0 0, .int .i64 0] 68) = w0 at hS0 hp0 hm0 hr0 ⊢
 have hz0 : w0.heap.size = w.heap.size + 3 := by rw [← hw0]; simp
 clear hw0
 have q3 : w0.cell? ⟨w.heap.size + 1, 3, none⟩ = some (.slice kp m.code.length kc) := by rw [cell_of hm0]; rfl
 have q3a : ∀ o, (w0.alloc o).cell? ⟨w.heap.size + 1, 3, none⟩ = some (.slice kp m.code.length kc) := fun o => ((Upd.refl [] w0).alloc o).cell q3 (by simp)
 have q3b : ∀ o o', ((w0.alloc o).alloc o').cell? ⟨w.heap.size + 1, 3, none⟩ = some (.slice kp m.code.length kc) := fun o o' => (((Upd.refl [] w0).alloc o).alloc o').cell q3 (by simp)
 have HZ0 := Lib.hid hz0
 have HP0 := Lib.hid hp0
 have HM0 := Lib.hid hm0
 have HR0 := Lib.hid hr0
 have HU0 := Lib.hid hS0
 clear hz0 hp0 hm0 hr0 hS0
 have hmk1 := fun W => make_strs W m.code.length (by omega)
 have hmk2 := fun W => make_bools W m.code.length (by omega)
 go_cut [9] from 16 to 24 (fun v9 wx => Hid (LookPre m.code.length w0 wx v9))
 case first =>
  go_region
  all_goals
   go_wp2_with fail
   go_meet
   refine Hid.mk ?_
   first
    | exact ⟨_, _, _, rfl, (alloc3 w0 _ _ _).2.2, (alloc3 w0 _ _ _).1, (alloc3 w0 _ _ _).2.1, by omega, upd3 w0 _ _ _⟩
    | exact ⟨_, _, _, rfl, (alloc3 w0 _ _ _).2.2, (alloc3 w0 _ _ _).2.1, (alloc3 w0 _ _ _).1, by omega, upd3 w0 _ _ _⟩
    | exact ⟨_, _, _, rfl, (alloc3 w0 _ _ _).2.1, (alloc3 w0 _ _ _).1, (alloc3 w0 _ _ _).2.2, by omega, upd3 w0 _ _ _⟩
    | exact ⟨_, _, _, rfl, (alloc3 w0 _ _ _).2.1, (alloc3 w0 _ _ _).2.2, (alloc3 w0 _ _ _).1, by omega, upd3 w0 _ _ _⟩
    | exact ⟨_, _, _, rfl, (alloc3 w0 _ _ _).1, (alloc3 w0 _ _ _).2.1, (alloc3 w0 _ _ _).2.2, by omega, upd3 w0 _ _ _⟩
    | exact ⟨_, _, _, rfl, (alloc3 w0 _ _ _).1, (alloc3 w0 _ _ _).2.2, (alloc3 w0 _ _ _).2.1, by omega, upd3 w0 _ _ _⟩
 case rest =>
  clear q3a q3b
  obtain ⟨xb, gs, gb, rfl, hx, hgs, hgb, ⟨ne1, ne2, ne3, ne4, ne5, ne6⟩, hu⟩ := hcut.out
  clear hcut
  obtain ⟨w1, rfl⟩ : ∃ w1 : World, w1 = wc := ⟨_, rfl⟩
  have l1 := lt_of_heap hx
  have l2 := lt_of_heap hgs
  have l3 := lt_of_heap hgb
  have z0 := HZ0.out
  have ha := (Upd.refl [] w1).alloc (.cells (bcells (List.replicate m.code.length false)) 4)
  have q3 := hu.cell q3 (by simp)
  have hl0 : LookIn w (w1.alloc (.cells (bcells (List.replicate m.code.length false)) 4)) cv mv (.slice kp m.code.length kc) m m.code.length xb gs gb w1.heap.size ⟨List.replicate m.code.length false, List.replicate m.code.length [], List.replicate m.code.length false, 0⟩ :=
   ⟨(hu.trans ha).heap HP0.out (by simp), (hu.trans ha).heap HM0.out (by simp), (hu.trans ha).heap HR0.out (by simp), ha.heap hx (by simp), ha.heap hgs (by simp), ha.heap hgb (by simp), heap_alloc_new w1 _, HU0.out.trans (hu.trans ha), by omega, by omega⟩
  clear hx hgs hgb ha HP0 HM0 HR0
  go_upto_region 3 with fail
  generalize w1.alloc (.cells (bcells (List.replicate m.code.length false)) 4) = w2 at hl0 ⊢
  generalize w1.heap.size = db at hl0 ⊢
  have x1 : w2.cell? ⟨xb, 1, none⟩ = some (.slice (some ⟨gb, 0, none⟩) m.code.length m.code.length) := by rw [cell_of hl0.hxb]; rfl
  have b0 : w2.cell? ⟨gb, 0, none⟩ = some (.bool false) := by rw [cell_of hl0.hgb, bcells_get _ _ (by simp; omega), List.getD_eq_getElem?_getD, List.getElem?_replicate]; split <;> rfl
  have f0 := froz_of hl0.hgb 0
  have HL0 := Lib.hid (hl0.see 0)
  clear q3 l1 l2 l3 z0 ne1 ne2 ne3 ne4 ne5 ne6 hu hl0 HU0 HZ0
  go_wp2_with fail
  go_loopw [11] (fun _ wr => ∃ (i : Nat) (s : Lk), Hid (Lk.Mid p m i s) ∧ Hid (LookIn w wr cv mv (.slice kp m.code.length kc) m m.code.length xb gs gb db s)) (fun _ wr => openN wr db)
  case atStart => exact ⟨0, _, Lk.Mid.start p m, HL0.out⟩
  case round =>
   clear HL0 x1 b0 f0
   obtain ⟨i, s, HI, HL⟩ := hrel
   obtain ⟨wo, rfl⟩ : ∃ wo : World, wo = wr := ⟨_, rfl⟩
   have hok2 := HI.out.ok
   have ks := hok2.seen
   have kd := hok2.done
   have kt := hok2.stk
   have KS := Lib.hid ks
   have KD := Lib.hid kd
   have KT := Lib.hid kt
   have KL := Lib.hid hok2.low
   have KM := Lib.hid hok2.most
   clear ks kd kt hok2
   have m3 : wo.cell? ⟨w.heap.size + 1, 3, none⟩ = some (.slice kp m.code.length kc) := by rw [cell_of HL.out.hmb]; rfl
   have x0 : wo.cell? ⟨xb, 0, none⟩ = some (.slice (some ⟨gs, 0, none⟩) m.code.length m.code.length) := by rw [cell_of HL.out.hxb]; rfl
   have x1 : wo.cell? ⟨xb, 1, none⟩ = some (.slice (some ⟨gb, 0, none⟩) m.code.length m.code.length) := by rw [cell_of HL.out.hxb]; rfl
   have x2 : wo.cell? ⟨xb, 2, none⟩ = some (.int .i64 s.most) := by rw [cell_of HL.out.hxb]; rfl
   go_wp2_with fail
   go_loopw [11] (fun v wr => ∃ j : Nat, j ≤ m.code.length ∧ v = .int .i64 j ∧ wo = wr ∧ Hid (∀ q, q < j → (s.seen.getD q false && !s.done.getD q false) = false)) (fun v _ => m.code.length - (intOf v).toNat)
   case atStart => exact ⟨0, by omega, rfl, rfl, (fun q hq => by omega : ∀ q, q < 0 → _)⟩
   case round =>
    obtain ⟨j, hj, rfl, rfl, HJJ⟩ := hrel
    by_cases hlt : j < m.code.length
    ·have sj : wo.cell? ⟨gb, j, none⟩ = some (.bool (s.seen.getD j false)) := by rw [cell_of HL.out.hgb, bcells_get _ _ (by rw [KS.out]; exact hlt)]
     have dj : wo.cell? ⟨db, j, none⟩ = some (.bool (s.done.getD j false)) := by rw [cell_of HL.out.hdb, bcells_get _ _ (by rw [KD.out]; exact hlt)]
     cases hsj : s.seen.getD j false with
     | false =>
      rw [hsj] at sj
      have HSJ := Lib.hid hsj
      clear hsj
      go_wp2_with fail
      go_roundw
      case rel =>
       refine ⟨j + 1, by omega, by go_num, trivial, (fun q hq => ?_ : ∀ q, q < j + 1 → _)⟩
       by_cases e : q = j
       ·subst e; rw [HSJ.out]; rfl
       ·exact HJJ.out q (by omega)
      case measure => simp [intOf]; omega
     | true =>
      rw [hsj] at sj
      have HSJ := Lib.hid hsj
      clear hsj
      cases hdj : s.done.getD j false with
      | true =>
       rw [hdj] at dj
       have HDJ := Lib.hid hdj
       clear hdj
       go_wp2_with fail
       go_roundw
       case rel =>
        refine ⟨j + 1, by omega, by go_num, trivial, (fun q hq => ?_ : ∀ q, q < j + 1 → _)⟩
        by_cases e : q = j
        ·subst e; rw [HDJ.out, Bool.not_true, Bool.and_false]
        ·exact HJJ.out q (by omega)
       case measure => simp [intOf]; omega
      | false =>
       rw [hdj] at dj
       have HP : Hid (s.pick m.code.length = j) := pick_at hlt HSJ.out hdj HJJ.out
       clear hdj
       have dn0 : ((j : Int) == (m.code.length : Int)) = false := by rw [beq_eq_false_iff_ne]; omega
       have fd := froz_of HL.out.hdb j
       go_upto_region 10 with fail
       -- <F
       have HD1 := Lib.hid (HL.out.done_ j)
       clear m3 x0 x1 x2 sj dj fd dn0
       generalize wo.setCell ⟨db, j, none⟩ (.bool true) = w2 at HD1 ⊢
       generalize hst : s.stk.getD j [] = st
       have HST := Lib.hid hst
       have hsl : st.length ≤ 12 := by rw [← hst]; exact KL.out j
       clear hst
       obtain ⟨bk, ok, rfl, _, hxi⟩ := HKX.out j hlt
       have HSS := Lib.hid (HSTEP.out j hlt (bs st) w2.drew)
       rw [bs_list] at HSS
       have hop := hok
       generalize hxx : m.code.getD j default = x at HSS hxi
       have HXX := Lib.hid hxx
       clear hxx hop
       have hu2 := HD1.out.upd
       have HF0 : Nine w2 w xb gs j bk ok cv mv m kc x st := ⟨by rw [cell_of HD1.out.hpb]; rfl, by rw [cell_of HD1.out.hpb]; rfl, by rw [cell_of HD1.out.hmb]; rfl, by rw [cell_of HD1.out.hxb]; rfl, by
        rw [cell_of HD1.out.hgs, scells_get _ _ (by show j < s.stk.length; rw [KT.out]; exact hlt)]
        show some (Value.string (bs (s.stk.getD j []))) = _
        rw [HST.out], hu2.cell hxi.1 (by simp), hu2.cell hxi.2.1 (by simp), hu2.cell hxi.2.2.1 (by simp), hu2.cell hxi.2.2.2 (by simp)⟩
       have HF1 := HF0.upd (Upd.refl [] w2).drew
       have HU2 := Lib.hid hu2
       have HSS2 := Lib.hid (HSS.out (HS.out.upd hu2.drew) (HC.out.upd hu2.drew) (HM.out.upd hu2.drew) (by rw [bs_size]; omega))
       clear hxi HSS hu2
       cases hbe : behL p m x st with
       | error c =>
        have hcc := beh_code hbe
        rw [hbe] at HSS2
        have hc0 : c ≠ 0 := by omega
        unfold stepV at HSS2
        simp only at HSS2
        rw [errC_iface E c hc0] at HSS2
        have HBE := Lib.hid hbe
        clear hbe hcc hc0
        go_wp2_with fail
        go_region_held3 (fun w' => Nine w' w xb gs j bk ok cv mv m kc x st)
         (first | exact hk0 | exact HF1 | exact HF0)
         ((go_at_call 27; refine HSS2.out.mono ?_; rintro e w3 ⟨rfl, hu3⟩; have hk0 := HF1.upd hu3))
        have HD3 := Lib.hid (HD1.out.same ((Upd.refl [] w2).drew.trans hu3))
        have r0 : w3.cell? ⟨w.heap.size + 1 + 1, 0, none⟩ = some (.slice none 0 0) := by rw [cell_of HD3.out.hrb]; rfl
        have r1 : w3.cell? ⟨w.heap.size + 1 + 1, 1, none⟩ = some (.slice none 0 0) := by rw [cell_of HD3.out.hrb]; rfl
        have r2 : w3.cell? ⟨w.heap.size + 1 + 1, 2, none⟩ = some (.int .i64 0) := by rw [cell_of HD3.out.hrb]; rfl
        have y0 := froz_of HD3.out.hrb 0
        have y1 := froz_of HD3.out.hrb 1
        have y2 := froz_of HD3.out.hrb 2
        have HER : Hid (lookM p m = .error (c, j)) := by
         refine HI.out.bad (by rw [HP.out]; exact hlt) ?_
         unfold Lk.step
         simp only
         rw [HP.out, HXX.out, HST.out, HBE.out]
        clear hk0 hu3 HF0 HF1
        go_wp2_with fail
        have k1 := heap_setCell HD3.out.hrb 0 (.slice none 0 0)
        have k2 := heap_setCell k1 1 (.slice none 0 0)
        have k3 := heap_setCell k2 2 (.int .i64 0)
        have d0 := cell_of k3 0
        have d1 := cell_of k3 1
        have d2 := cell_of k3 2
        simp at d0 d1 d2
        have hu4 : Upd [w.heap.size + 1 + 1] w3 (((w3.setCell ⟨w.heap.size + 1 + 1, 0, none⟩ (.slice none 0 0)).setCell ⟨w.heap.size + 1 + 1, 1, none⟩ (.slice none 0 0)).setCell ⟨w.heap.size + 1 + 1, 2, none⟩ (.int .i64 0)) :=
         (((Upd.refl _ w3).setCell (.inl (by simp)) _).setCell (.inl (by simp)) _).setCell (.inl (by simp)) _
        refine bodyPost_ret (v := .tuple #[.agg #[.slice none 0 0, .slice none 0 0, .int .i64 0], .int .i64 j, .iface 175 (.pointer (some (E (c - 101).toNat)))]) (by simp [results, Tryd.results16, go_sem, d0, d1, d2]) rfl ?_
        refine ⟨_, rfl, ?_, HD3.out.upd.trans' hu4 (fun i hi hl => by simp at hi; omega)⟩
        rw [HER.out]
        show _ = _
        rw [errC_iface E c (by have := beh_code HBE.out; omega)]
       | ok t =>
        have htl := behL_low hbe
        rw [hbe] at HSS2
        unfold stepV at HSS2
        simp only at HSS2
        have HBE := Lib.hid hbe
        clear hbe
        go_wp2_with fail
        go_region_held3 (fun w' => Nine w' w xb gs j bk ok cv mv m kc x st)
         (first | exact hk0 | exact HF1 | exact HF0)
         ((go_at_call 27; refine HSS2.out.mono ?_; rintro e w3 ⟨rfl, hu3⟩; have hk0 := HF1.upd hu3))
        have HD3 := Lib.hid (HD1.out.same ((Upd.refl [] w2).drew.trans hu3))
        have z1 := bs_size st
        have z2 := bs_size t
        have x2 : w3.cell? ⟨xb, 2, none⟩ = some (.int .i64 s.most) := by rw [cell_of HD3.out.hxb]; rfl
        have x0 : w3.cell? ⟨xb, 0, none⟩ = some (.slice (some ⟨gs, 0, none⟩) m.code.length m.code.length) := by rw [cell_of HD3.out.hxb]; rfl
        have s0 : w3.cell? ⟨gs, j, none⟩ = some (.string (bs st)) := hk0.2.2.2.2.1
        have f2 := froz_of HD3.out.hxb 2
        clear hk0 hu3 HF0 HF1
        go_wp2_with fail
        go_region
        rw [max_form]
        have HD4 : Hid (LookIn w (w3.setCell ⟨xb, 2, none⟩ (.int .i64 ((max s.most (max st.length t.length) : Nat) : Int))).drew cv mv (.slice (some ⟨bk, ok, none⟩) m.code.length kc) m m.code.length xb gs gb db (s.take j t)) := by
         have h := (HD3.out.most_ (max s.most (max st.length t.length)) _ rfl).same (Upd.refl [] _).drew
         have e : ({ s with done := s.done.set j true, most := max s.most (max st.length t.length) } : Lk) = s.take j t := by unfold Lk.take; rw [HST.out]
         exact e ▸ h
        have HOK1 : Hid ((s.take j t).Ok m.code.length) := HI.out.ok.take j htl
        generalize (w3.setCell ⟨xb, 2, none⟩ (.int .i64 ((max s.most (max st.length t.length) : Nat) : Int))).drew = w4 at HD4 ⊢
        clear x2 x0 s0 f2 z1 z2 HD3 HD1 HU2 HSS2
        have m0 : w4.cell? ⟨w.heap.size + 1, 0, none⟩ = some (.string m.params) := by rw [cell_of HD4.out.hmb]; rfl
        have m1 : w4.cell? ⟨w.heap.size + 1, 1, none⟩ = some (.string m.locals) := by rw [cell_of HD4.out.hmb]; rfl
        have m2 : w4.cell? ⟨w.heap.size + 1, 2, none⟩ = some (.string m.ret) := by rw [cell_of HD4.out.hmb]; rfl
        have m3 : w4.cell? ⟨w.heap.size + 1, 3, none⟩ = some (.slice (some ⟨bk, ok, none⟩) m.code.length kc) := by rw [cell_of HD4.out.hmb]; rfl
        have HNX := Lib.hid (next_any m.params m.locals m.ret (.slice (some ⟨bk, ok, none⟩) m.code.length kc) m.code (j : Int) w4 (HCODE.out.upd HD4.out.upd) (by omega))
        go_wp2_with fail
        refine HNX.out.mono ?_
        rintro e w5 ⟨u, rfl, hO, hu5⟩
        obtain ⟨up, uc, rfl⟩ := hO.shape
        have HJN := Lib.hid (HJ.out j hlt)
        have HD5 := Lib.hid (HD4.out.same hu5)
        have l4 := lt_of_heap HD4.out.hgs
        have l5 := lt_of_heap HD4.out.hgb
        have HSTE : Hid (∀ r, (nextL m.code j).foldlM (fun s k => Lk.to m.code.length s k t) (s.take j t) = r → s.step p m = match r with
          | .error e => .error (e, j)
          | .ok s' => .ok s') := by
         intro r hr
         unfold Lk.take at hr
         unfold Lk.step
         simp only
         rw [HP.out, HXX.out, HST.out, HBE.out]
         rw [HST.out] at hr
         simp only
         rw [hr]
         cases r <;> rfl
        have HOU := Lib.hid (fun q hq => hO.nth q hq)
        clear m0 m1 m2 m3 hu5 hO HNX HD4
        have hnl3 := nextL_len m.code (j : Int)
        generalize nextL m.code (j : Int) = nl at HJN HSTE HOU hnl3 ⊢
        go_wp2_with fail
        go_loopw [99] (fun v wr => ∃ (q : Nat) (sq : Lk), q ≤ nl.length ∧ v = .int .i64 q ∧ Hid ((nl.take q).foldlM (fun s k => Lk.to m.code.length s k t) (s.take j t) = .ok sq) ∧ Hid (LookIn w wr cv mv (.slice (some ⟨bk, ok, none⟩) m.code.length kc) m m.code.length xb gs gb db sq) ∧ Hid (Upd [gs, gb] w5 wr)) (fun v _ => nl.length - (intOf v).toNat)
        case atStart => exact ⟨0, _, by omega, rfl, rfl, HD5.out, Upd.refl _ _⟩
        case round =>
         obtain ⟨q, sq, hq, rfl, HFQ, HLQ, HUQ⟩ := hrel
         obtain ⟨w6, rfl⟩ : ∃ w6 : World, w6 = wr := ⟨_, rfl⟩
         by_cases hql : q < nl.length
         ·obtain ⟨g, c, he, hg1, hg2, hcell⟩ := HOU.out q hql
          injection he with he1 he2 he3
          subst he1
          clear he2 he3
          have hx := HUQ.out.cell hcell (by simp; omega)
          have hk0 : 0 ≤ nl.getD q 0 := HJN.out _ (by rw [List.getD_eq_getElem?_getD, List.getElem?_eq_getElem hql]; exact List.getElem_mem hql)
          obtain ⟨kn, hkn⟩ := Int.eq_ofNat_of_zero_le hk0
          rw [hkn] at hx
          have HKN := Lib.hid hkn
          clear hcell hk0 hkn
          have m3 : w6.cell? ⟨w.heap.size + 1, 3, none⟩ = some (.slice (some ⟨bk, ok, none⟩) m.code.length kc) := by rw [cell_of HLQ.out.hmb]; rfl
          have x0 : w6.cell? ⟨xb, 0, none⟩ = some (.slice (some ⟨gs, 0, none⟩) m.code.length m.code.length) := by rw [cell_of HLQ.out.hxb]; rfl
          have x1 : w6.cell? ⟨xb, 1, none⟩ = some (.slice (some ⟨gb, 0, none⟩) m.code.length m.code.length) := by rw [cell_of HLQ.out.hxb]; rfl
          by_cases hkl2 : m.code.length ≤ kn
          ·have dk : decide ((m.code.length : Int) ≤ (kn : Int)) = true := decide_eq_true (by omega)
           have HER : Hid (lookM p m = .error (110, j)) := HI.out.bad (by rw [HP.out]; exact hlt) (HSTE.out _ (fold_bad HFQ.out hql (by
            unfold Lk.to
            rw [HKN.out, if_pos (by omega)])))
           have g2 : w6.cell? ⟨3, 0, none⟩ = some (.iface 175 (.pointer (some (E 9)))) := (HS.out.upd HLQ.out.upd).g 9 (by omega)
           have hgl : (3 : Nat) < w.heap.size := World.block_lt_of_cell? w _ (HS.out.g 9 (by omega))
           have hgn : ¬ (w.heap.size + 1 + 1 = 3) := by omega
           have hgn2 : ¬ (3 = w.heap.size + 1 + 1) := by omega
           clear hgl
           have r0 : w6.cell? ⟨w.heap.size + 1 + 1, 0, none⟩ = some (.slice none 0 0) := by rw [cell_of HLQ.out.hrb]; rfl
           have r1 : w6.cell? ⟨w.heap.size + 1 + 1, 1, none⟩ = some (.slice none 0 0) := by rw [cell_of HLQ.out.hrb]; rfl
           have r2 : w6.cell? ⟨w.heap.size + 1 + 1, 2, none⟩ = some (.int .i64 0) := by rw [cell_of HLQ.out.hrb]; rfl
           have y0 := froz_of HLQ.out.hrb 0
           have y1 := froz_of HLQ.out.hrb 1
           have y2 := froz_of HLQ.out.hrb 2
           go_wp2_with fail
           go_region
           go_wp2_with fail
           have k1 := heap_setCell HLQ.out.hrb 0 (.slice none 0 0)
           have k2 := heap_setCell k1 1 (.slice none 0 0)
           have k3 := heap_setCell k2 2 (.int .i64 0)
           have d0 := cell_of k3 0
           have d1 := cell_of k3 1
           have d2 := cell_of k3 2
           simp at d0 d1 d2
           have hu4 : Upd [w.heap.size + 1 + 1] w6 (((w6.setCell ⟨w.heap.size + 1 + 1, 0, none⟩ (.slice none 0 0)).setCell ⟨w.heap.size + 1 + 1, 1, none⟩ (.slice none 0 0)).setCell ⟨w.heap.size + 1 + 1, 2, none⟩ (.int .i64 0)) :=
            (((Upd.refl _ w6).setCell (.inl (by simp)) _).setCell (.inl (by simp)) _).setCell (.inl (by simp)) _
           refine bodyPost_ret (v := .tuple #[.agg #[.slice none 0 0, .slice none 0 0, .int .i64 0], .int .i64 j, .iface 175 (.pointer (some (E 9)))]) (by simp [results, Tryd.results16, go_sem, d0, d1, d2]) rfl ?_
           refine ⟨_, rfl, ?_, HLQ.out.upd.trans' hu4.drew (fun i hi hl => by simp at hi; omega)⟩
           rw [HER.out]
           rfl
          ·have dk : decide ((m.code.length : Int) ≤ (kn : Int)) = false := decide_eq_false (by omega)
           have hkl3 : kn < m.code.length := by omega
           have HOKQ := Lib.hid (Lk.Ok.tos htl HOK1.out HFQ.out)
           have sk : w6.cell? ⟨gb, kn, none⟩ = some (.bool (sq.seen.getD kn false)) := by rw [cell_of HLQ.out.hgb, bcells_get _ _ (by rw [HOKQ.out.seen]; exact hkl3)]
           have tk : w6.cell? ⟨gs, kn, none⟩ = some (.string (bs (sq.stk.getD kn []))) := by rw [cell_of HLQ.out.hgs, scells_get _ _ (by rw [HOKQ.out.stk]; exact hkl3)]
           cases hse : sq.seen.getD kn false with
           | false =>
            rw [hse] at sk
            have HTO : Hid (Lk.to m.code.length sq (nl.getD q 0) t = .ok { sq with seen := sq.seen.set kn true, stk := sq.stk.set kn t }) := by
             show _ = _
             unfold Lk.to
             rw [HKN.out, if_neg (by omega), Int.toNat_natCast, if_pos hse]
            clear hse
            have f0 := froz_of HLQ.out.hgb kn
            have f1 := froz_of HLQ.out.hgs kn
            have hne := HLQ.out.ne
            have HLQ1 := Lib.hid ((HLQ.out.see kn).put kn t)
            have HLQ2 := Lib.hid ((HLQ.out.put kn t).see kn)
            go_wp2_with fail
            go_region
            all_goals
             go_wp2_with fail
             go_roundw
             case rel =>
              first
               | exact ⟨q + 1, _, by omega, by go_num, fold_next HFQ.out hql HTO.out, HLQ1.out.same (Upd.refl [] _).drew, ((HUQ.out.setCell (.inl (by simp)) _).setCell (.inl (by simp)) _).drew⟩
               | exact ⟨q + 1, _, by omega, by go_num, fold_next HFQ.out hql HTO.out, HLQ2.out.same (Upd.refl [] _).drew, ((HUQ.out.setCell (.inl (by simp)) _).setCell (.inl (by simp)) _).drew⟩
             case measure => simp [intOf]; omega
           | true =>
            rw [hse] at sk
            by_cases hme : sq.stk.getD kn [] = t
            ·have HTO : Hid (Lk.to m.code.length sq (nl.getD q 0) t = .ok sq) := by
              show _ = _
              unfold Lk.to
              rw [HKN.out, if_neg (by omega), Int.toNat_natCast, if_neg (by rw [hse]; simp), if_neg (by simpa using hme)]
             rw [hme] at tk
             clear hse hme
             go_wp2_with fail
             go_roundw
             case rel => exact ⟨q + 1, sq, by omega, by go_num, fold_next HFQ.out hql HTO.out, HLQ.out, HUQ.out⟩
             case measure => simp [intOf]; omega
            ·have hne1 : ((bs (sq.stk.getD kn [])).toList == (bs t).toList) = false := by rw [bs_list, bs_list, beq_eq_false_iff_ne]; exact hme
             have HME := Lib.hid hme
             have HSE := Lib.hid hse
             clear hse hme
             generalize hav : bs (sq.stk.getD kn []) = av at tk hne1
             clear hav
             generalize htv : bs t = tv at hne1 ⊢
             clear htv
             have HER : Hid (lookM p m = .error (109, j)) := HI.out.bad (by rw [HP.out]; exact hlt) (HSTE.out _ (fold_bad HFQ.out hql (by
              unfold Lk.to
              rw [HKN.out, if_neg (by omega), Int.toNat_natCast, if_neg (by rw [HSE.out]; simp), if_pos HME.out])))
             have g2 : w6.cell? ⟨4, 0, none⟩ = some (.iface 175 (.pointer (some (E 8)))) := (HS.out.upd HLQ.out.upd).g 8 (by omega)
             have hgl : (4 : Nat) < w.heap.size := World.block_lt_of_cell? w _ (HS.out.g 8 (by omega))
             have hgn : ¬ (w.heap.size + 1 + 1 = 4) := by omega
             have hgn2 : ¬ (4 = w.heap.size + 1 + 1) := by omega
             clear hgl
             have r0 : w6.cell? ⟨w.heap.size + 1 + 1, 0, none⟩ = some (.slice none 0 0) := by rw [cell_of HLQ.out.hrb]; rfl
             have r1 : w6.cell? ⟨w.heap.size + 1 + 1, 1, none⟩ = some (.slice none 0 0) := by rw [cell_of HLQ.out.hrb]; rfl
             have r2 : w6.cell? ⟨w.heap.size + 1 + 1, 2, none⟩ = some (.int .i64 0) := by rw [cell_of HLQ.out.hrb]; rfl
             have y0 := froz_of HLQ.out.hrb 0
             have y1 := froz_of HLQ.out.hrb 1
             have y2 := froz_of HLQ.out.hrb 2
             go_wp2_with fail
             go_region
             go_wp2_with fail
             have k1 := heap_setCell HLQ.out.hrb 0 (.slice none 0 0)
             have k2 := heap_setCell k1 1 (.slice none 0 0)
             have k3 := heap_setCell k2 2 (.int .i64 0)
             have d0 := cell_of k3 0
             have d1 := cell_of k3 1
             have d2 := cell_of k3 2
             simp at d0 d1 d2
             have hu4 : Upd [w.heap.size + 1 + 1] w6 (((w6.setCell ⟨w.heap.size + 1 + 1, 0, none⟩ (.slice none 0 0)).setCell ⟨w.heap.size + 1 + 1, 1, none⟩ (.slice none 0 0)).setCell ⟨w.heap.size + 1 + 1, 2, none⟩ (.int .i64 0)) :=
              (((Upd.refl _ w6).setCell (.inl (by simp)) _).setCell (.inl (by simp)) _).setCell (.inl (by simp)) _
             refine bodyPost_ret (v := .tuple #[.agg #[.slice none 0 0, .slice none 0 0, .int .i64 0], .int .i64 j, .iface 175 (.pointer (some (E 8)))]) (by simp [results, Tryd.results16, go_sem, d0, d1, d2]) rfl ?_
             refine ⟨_, rfl, ?_, HLQ.out.upd.trans' hu4.drew (fun i hi hl => by simp at hi; omega)⟩
             rw [HER.out]
             rfl
         ·obtain rfl : q = nl.length := by omega
          have hcn := HFQ.out
          rw [List.take_length] at hcn
          have HST2 : Hid (s.step p m = .ok sq) := HSTE.out _ hcn
          have HMID := Lib.hid (HI.out.next (by rw [HP.out]; exact hlt) HST2.out)
          clear hcn
          go_wp2_with fail
          go_roundw
          case rel => exact ⟨_, _, HMID.out, HLQ.out⟩
          case measure =>
           rw [openN_of HLQ.out.hdb, openN_of HL.out.hdb, HMID.out.ok.done, KD.out]
           have e1 : sq.done.count true = i + 1 := HMID.out.cnt
           have e2 : s.done.count true = i := HI.out.cnt
           have e3 := HMID.out.le
           omega
       -- F>
    ·obtain rfl : j = m.code.length := by omega
     have HP : Hid (s.pick m.code.length = m.code.length) := pick_none HJJ.out
     have r0 : wo.cell? ⟨w.heap.size + 1 + 1, 0, none⟩ = some (.slice none 0 0) := by rw [cell_of HL.out.hrb]; rfl
     have r1 : wo.cell? ⟨w.heap.size + 1 + 1, 1, none⟩ = some (.slice none 0 0) := by rw [cell_of HL.out.hrb]; rfl
     have r2 : wo.cell? ⟨w.heap.size + 1 + 1, 2, none⟩ = some (.int .i64 0) := by rw [cell_of HL.out.hrb]; rfl
     have y0 := froz_of HL.out.hrb 0
     have y1 := froz_of HL.out.hrb 1
     have y2 := froz_of HL.out.hrb 2
     go_wp2_with fail
     have k1 := heap_setCell HL.out.hrb 0 (.slice (some ⟨gs, 0, none⟩) m.code.length m.code.length)
     have k2 := heap_setCell k1 1 (.slice (some ⟨gb, 0, none⟩) m.code.length m.code.length)
     have k3 := heap_setCell k2 2 (.int .i64 s.most)
     have d0 := cell_of k3 0
     have d1 := cell_of k3 1
     have d2 := cell_of k3 2
     simp at d0 d1 d2
     have hu3 : Upd [w.heap.size + 1 + 1] wo (((wo.setCell ⟨w.heap.size + 1 + 1, 0, none⟩ (.slice (some ⟨gs, 0, none⟩) m.code.length m.code.length)).setCell ⟨w.heap.size + 1 + 1, 1, none⟩ (.slice (some ⟨gb, 0, none⟩) m.code.length m.code.length)).setCell ⟨w.heap.size + 1 + 1, 2, none⟩ (.int .i64 s.most)) :=
      (((Upd.refl _ wo).setCell (.inl (by simp)) _).setCell (.inl (by simp)) _).setCell (.inl (by simp)) _
     have hge := HL.out.ge
     refine bodyPost_ret (v := .tuple #[.agg #[.slice (some ⟨gs, 0, none⟩) m.code.length m.code.length, .slice (some ⟨gb, 0, none⟩) m.code.length m.code.length, .int .i64 s.most], .int .i64 0, .nilIface]) (by simp [results, Tryd.results16, go_sem, d0, d1, d2]) rfl ?_
     refine ⟨_, rfl, ?_, HL.out.upd.trans' hu3 (fun i hi hl => by simp at hi; omega)⟩
     rw [HI.out.fin HP.out]
     have hgs := hu3.heap HL.out.hgs (by simp; omega)
     have hgb := hu3.heap HL.out.hgb (by simp; omega)
     exact ⟨gs, gb, rfl, ⟨hgs, hgb⟩, by omega, by omega, lt_of_heap hgs, lt_of_heap hgb⟩
end Go.Proofs.YtojobkhidlfeoaaDoor

/-! verify.Of. -/
namespace Go.Proofs.YtojobkhidlfeoaaDoor
open Go.RowKit

/-- What Of answers. -/
def OfEnd (p : Prg) (E : Nat → Addr) (w : World) (v : Value) (w' : World) : Prop :=
 ((∃ c at_ ev, MayIs p c at_ ∧ c ≠ 0 ∧ v = .tuple #[.pointer none, ev] ∧ ErrV w' E ev c at_) ∨
  (p.Ok ∧ ∃ k c pc ev, k < p.ms.length ∧ (∀ j, j < k → ∃ s, lookM p (p.ms.getD j default) = .ok s) ∧ lookM p (p.ms.getD k default) = .error (c, pc) ∧ v = .tuple #[.pointer none, ev] ∧ ErrV w' E ev c [(k : Int), (pc : Int)]) ∨
  (p.Ok ∧ ∃ ib ss, ss.length = p.ms.length ∧ (∀ j, j < p.ms.length → lookM p (p.ms.getD j default) = .ok (ss.getD j default)) ∧ v = .tuple #[.pointer (some ⟨ib, 0, none⟩), .nilIface] ∧ InfoAt w' ib p ss 0 ∧ w.heap.size ≤ ib ∧ ib < w'.heap.size)) ∧ Upd [] w w'

abbrev Six (w : World) (ib mb : Nat) (cv mv : Value) (m : Meth) (ka : Option Addr) (kc : Nat) : Prop :=
 w.cell? ⟨ib, 0, none⟩ = some cv ∧ w.cell? ⟨ib, 1, none⟩ = some mv ∧ w.cell? ⟨mb, 0, none⟩ = some (.string m.params) ∧ w.cell? ⟨mb, 1, none⟩ = some (.string m.locals) ∧ w.cell? ⟨mb, 2, none⟩ = some (.string m.ret) ∧ w.cell? ⟨mb, 3, none⟩ = some (.slice ka m.code.length kc)
theorem Six.upd {w w' : World} {ib mb : Nat} {cv mv : Value} {m : Meth} {ka : Option Addr} {kc : Nat} (h : Six w ib mb cv mv m ka kc) (hu : Upd [] w w') : Six w' ib mb cv mv m ka kc :=
 ⟨hu.cell h.1 (by simp), hu.cell h.2.1 (by simp), hu.cell h.2.2.1 (by simp), hu.cell h.2.2.2.1 (by simp), hu.cell h.2.2.2.2.1 (by simp), hu.cell h.2.2.2.2.2 (by simp)⟩

theorem lookV.upd {E : Nat → Addr} {w w' : World} {B n : Nat} {v : Value} {r : Except (Int × Nat) Lk} (h : lookV E w B v n r) (hu : Upd [] w w') : lookV E w' B v n r := by
 cases r with
 | error e => exact h
 | ok s =>
  obtain ⟨gs, gb, h1, h2, h3, h4, h5, h6⟩ := h
  have := hu.size
  exact ⟨gs, gb, h1, h2.upd hu (by simp) (by simp), h3, h4, by omega, by omega⟩
/-- What look answers, part by part. -/
theorem lookV.parts {E : Nat → Addr} {w : World} {B n : Nat} {v : Value} {r : Except (Int × Nat) Lk} (h : lookV E w B v n r) : ∃ a0 n0 a1 n1 mo pc ev, v = .tuple #[.agg #[.slice a0 n0 n0, .slice a1 n1 n1, .int .i64 mo], .int .i64 pc, ev] := by
 cases r with
 | error e => exact ⟨_, _, _, _, _, _, _, h⟩
 | ok s => obtain ⟨gs, gb, h1, _⟩ := h; exact ⟨_, _, _, _, _, _, _, h1⟩
theorem box_after {w w' : World} (hu : Upd [] (w.drew.alloc (.cells #[.slice none 0 0, .slice none 0 0, .int .i64 0] 68)) w') :
  w'.cell? ⟨w.heap.size, 0, none⟩ = some (.slice none 0 0) ∧ w'.cell? ⟨w.heap.size, 1, none⟩ = some (.slice none 0 0) ∧ w'.cell? ⟨w.heap.size, 2, none⟩ = some (.int .i64 0) ∧ w'.frozen? ⟨w.heap.size, 0, none⟩ = false ∧ w'.frozen? ⟨w.heap.size, 1, none⟩ = false ∧ w'.frozen? ⟨w.heap.size, 2, none⟩ = false ∧ w'.heap[w.heap.size]? = some (.cells #[.slice none 0 0, .slice none 0 0, .int .i64 0] 68) := by
 have h := hu.heap (heap_alloc_new w.drew (.cells #[.slice none 0 0, .slice none 0 0, .int .i64 0] 68)) (by simp)
 have h : w'.heap[w.heap.size]? = some (.cells #[.slice none 0 0, .slice none 0 0, .int .i64 0] 68) := h
 exact ⟨by rw [cell_of h]; rfl, by rw [cell_of h]; rfl, by rw [cell_of h]; rfl, froz_of h 0, froz_of h 1, froz_of h 2, h⟩
def LookDone (E : Nat → Addr) (w wx : World) (B n : Nat) (r : Except (Int × Nat) Lk) (v8 v9 v10 : Value) : Prop :=
 ∃ xb c0 c1 c2, v8 = .pointer (some ⟨xb, 0, none⟩) ∧ wx.heap[xb]? = some (.cells #[c0, c1, c2] 68) ∧ lookV E wx B (.tuple #[.agg #[c0, c1, c2], v9, v10]) n r ∧ Upd [] w wx ∧ w.heap.size ≤ xb

theorem lookV.updT {E : Nat → Addr} {w w' : World} {B n : Nat} {v : Value} {r : Except (Int × Nat) Lk} {T : List Nat} (h : lookV E w B v n r) (hu : Upd T w w') (hT : ∀ k ∈ T, k < B) : lookV E w' B v n r := by
 cases r with
 | error e => exact h
 | ok s =>
  obtain ⟨gs, gb, h1, h2, h3, h4, h5, h6⟩ := h
  have := hu.size
  exact ⟨gs, gb, h1, h2.upd hu (fun hm => by have := hT _ hm; omega) (fun hm => by have := hT _ hm; omega), h3, h4, by omega, by omega⟩
theorem lookV.low {E : Nat → Addr} {w : World} {B B' n : Nat} {v : Value} {r : Except (Int × Nat) Lk} (h : lookV E w B v n r) (hB : B' ≤ B) : lookV E w B' v n r := by
 cases r with
 | error e => exact h
 | ok s =>
  obtain ⟨gs, gb, h1, h2, h3, h4, h5, h6⟩ := h
  exact ⟨gs, gb, h1, h2, by omega, by omega, h5, h6⟩
theorem look_late {E : Nat → Addr} {w w' : World} {n : Nat} {c0 c1 c2 pv ev : Value} {r : Except (Int × Nat) Lk} (h : lookV E w' w.drew.heap.size (.tuple #[.agg #[c0, c1, c2], pv, ev]) n r) (hu : Upd [] w.drew w') :
  LookDone E w (w'.alloc (.cells #[c0, c1, c2] 68)) w.heap.size n r (.pointer (some ⟨w'.heap.size, 0, none⟩)) pv ev :=
 ⟨_, c0, c1, c2, rfl, heap_alloc_new w' _, h.updT ((Upd.refl [] w').alloc _) (by simp), ((Upd.refl [] w).drew.trans hu).alloc _, hu.size⟩
theorem look_early {E : Nat → Addr} {w w' : World} {n : Nat} {c0 c1 c2 pv ev : Value} {r : Except (Int × Nat) Lk} (h : lookV E w' (w.drew.alloc (.cells #[.slice none 0 0, .slice none 0 0, .int .i64 0] 68)).heap.size (.tuple #[.agg #[c0, c1, c2], pv, ev]) n r) (hu : Upd [] (w.drew.alloc (.cells #[.slice none 0 0, .slice none 0 0, .int .i64 0] 68)) w') :
  LookDone E w (((w'.setCell ⟨w.heap.size, 0, none⟩ c0).setCell ⟨w.heap.size, 1, none⟩ c1).setCell ⟨w.heap.size, 2, none⟩ c2) w.heap.size n r (.pointer (some ⟨w.heap.size, 0, none⟩)) pv ev := by
 have hb := (box_after hu).2.2.2.2.2.2
 have hs : (w.drew.alloc (.cells #[.slice none 0 0, .slice none 0 0, .int .i64 0] 68)).heap.size = w.heap.size + 1 := by
  simp
 rw [hs] at h
 have k1 := heap_setCell hb 0 c0
 have k2 := heap_setCell k1 1 c1
 have k3 := heap_setCell k2 2 c2
 have hst : Upd [w.heap.size] w' (((w'.setCell ⟨w.heap.size, 0, none⟩ c0).setCell ⟨w.heap.size, 1, none⟩ c1).setCell ⟨w.heap.size, 2, none⟩ c2) := (((Upd.refl _ w').setCell (.inl (by simp)) _).setCell (.inl (by simp)) _).setCell (.inl (by simp)) _
 refine ⟨_, c0, c1, c2, rfl, ?_, (h.updT hst (fun k hk => by simp at hk; omega)).low (by omega), (((Upd.refl [] w).drew.alloc _).trans hu).trans' hst (fun k hk hl => by simp at hk; omega), Nat.le_refl _⟩
 rw [k3]
 simp
theorem look_code {p : Prg} {m : Meth} {c : Int} {pc : Nat} (h : lookM p m = .error (c, pc)) : 101 ≤ c ∧ c ≤ 114 := by
 have to_c : ∀ n s k t c, Lk.to n s k t = .error c → c = 109 ∨ c = 110 := by
  intro n s k t c h
  unfold Lk.to at h
  split at h
  ·injection h with h; omega
  ·split at h
   ·cases h
   ·split at h
    ·injection h with h; omega
    ·cases h
 have tos_c : ∀ (n : Nat) (t : List UInt8) (l : List Int) (s : Lk) (c : Int), l.foldlM (fun s k => Lk.to n s k t) s = .error c → c = 109 ∨ c = 110 := by
  intro n t l
  induction l with
  | nil => intro s c h; cases h
  | cons a l ih =>
   intro s c h
   rw [List.foldlM_cons] at h
   cases h1 : Lk.to n s a t with
   | error e =>
    rw [h1] at h
    injection h with h
    subst h
    exact to_c _ _ _ _ _ h1
   | ok s1 =>
    rw [h1] at h
    exact ih s1 c h
 have run_c : ∀ i e, Lk.run p m i = .error e → 101 ≤ e.1 ∧ e.1 ≤ 114 := by
  intro i
  induction i with
  | zero => intro e h; cases h
  | succ i ih =>
   intro e h
   have h2 : (match Lk.run p m i with | .error e => Except.error e | .ok s => if s.pick m.code.length = m.code.length then .ok s else s.step p m) = .error e := h
   cases h1 : Lk.run p m i with
   | error e' =>
    rw [h1] at h2
    injection h2 with h2
    subst h2
    exact ih _ h1
   | ok s =>
    rw [h1] at h2
    simp only at h2
    split at h2
    ·cases h2
    ·unfold Lk.step at h2
     simp only at h2
     split at h2
     ·rename_i h3
      injection h2 with h2
      subst h2
      have := beh_code h3
      simp only
      omega
     ·split at h2
      ·rename_i h3
       injection h2 with h2
       subst h2
       have := tos_c _ _ _ _ _ h3
       simp only
       omega
      ·cases h2
 exact run_c _ _ h

theorem Tryd.infoVMethod : (Tryd.prog.info? 68).map (fun i => (i.zero, i.size, i.bytes)) = some (some (.agg #[.slice none 0 0, .slice none 0 0, .int .i64 0]), 3, 56) := by kernel_rfl
theorem cell_news (w : World) (vs : List Value) (t : TypeId) : ∀ j u, vs[j]? = some u → (w.alloc (.cells vs.toArray t)).cell? ((⟨w.heap.size, 0, none⟩ : Addr).add j) = some u := by
 intro j u hj
 rw [Addr.add_lit, Nat.zero_add, cell_of (heap_alloc_new w _)]
 simpa using hj
theorem info_push {w w' : World} {B : Nat} {v v' : Value} {ms : List Meth} {ss : List Lk} {gg : List (Nat × Nat)} {m : Meth} {s : Lk} {gs gb : Nat} {o : Obj} {n : Nat} (h : OwnS w B v ms ss gg) (hs : LkAt w gs gb s) (hn : ms.length = n)
  (hown : w'.ownsRow B 68 3 v' (n + 1) (lcells ms ss gg ++ lcell m.code.length gs gb s)) (hgr : (w.drew.alloc o).grownBy w' v.ownBlock) :
  OwnS w' B v' (ms ++ [m]) (ss ++ [s]) (gg ++ [(gs, gb)]) ∧ Upd v.ownBlock.toList w w' ∧ (∀ k ∈ v.ownBlock.toList, B ≤ k ∧ k < w.heap.size) := by
 subst hn
 have hd := (Upd.refl [] w).drew
 refine ⟨(h.updT hd (by simp) (by simp)).push (hs.upd hd (by simp) (by simp)) hown hgr, ((Upd.refl _ w).drew.alloc o).grown hgr (fun q hq => Or.inl (Option.mem_toList.2 hq)), fun k hk => ?_⟩
 have := h.blk k (Option.mem_toList.1 hk)
 exact ⟨this.1, this.2.1⟩

set_option maxRecDepth 100000 in
set_option maxHeartbeats 4000000 in
theorem ofV_any (p : Prg) (cv mv : Value) (E : Nat → Addr) (w : World) (hS : SentAt w E) (hc : ClassAt w cv p.cs) (hm : MethsAt w mv p.ms) :
  Calls Tryd.prog 8 #[.agg #[cv, mv]] w fun e w' => ∃ v, e = .returned v ∧ OfEnd p E w v w' := by
 obtain ⟨ti, hti, htz0, htz1, htz2⟩ := info_parts Tryd.infoVMethod
 have HTI := Lib.hid hti
 have HTZ0 := Lib.hid htz0
 have HTZ1 := Lib.hid htz1
 have HTZ2 := Lib.hid htz2
 clear hti htz0 htz1 htz2
 have HS := Lib.hid hS
 have HSZ : Hid (∀ i, i < p.ms.length → (p.ms.getD i default).sz) := fun i hi => by obtain ⟨_, _, _, _, _, h⟩ := hm; obtain ⟨_, _, _, h, _⟩ := h i hi; exact h
 have hcs := hc
 have hms := hm
 obtain ⟨ca, cc, rfl, _⟩ := hcs
 obtain ⟨ma, mc, rfl, _⟩ := hms
 have hu0 := (Upd.refl [] w).alloc (.cells #[.slice ca p.cs.length cc, .slice ma p.ms.length mc] 36)
 have hb0 := heap_alloc_new w (.cells #[.slice ca p.cs.length cc, .slice ma p.ms.length mc] 36)
 have hc0 := hc.upd hu0
 have hm0 := hm.upd hu0
 have HU0 := Lib.hid hu0
 clear hc hm hu0 hS
 go_enter Tryd.func8, Tryd.ntmps8
 go_upto_region 1 with fail
 generalize w.alloc (.cells #[.slice ca p.cs.length cc, .slice ma p.ms.length mc] 36) = w0 at hb0 hc0 hm0 HU0 ⊢
 have p0 : w0.cell? ⟨w.heap.size, 0, none⟩ = some (.slice ca p.cs.length cc) := by rw [cell_of hb0]; rfl
 have p1 : w0.cell? ⟨w.heap.size, 1, none⟩ = some (.slice ma p.ms.length mc) := by rw [cell_of hb0]; rfl
 go_wp2_with fail
 refine (pmay_any p _ _ E w0 (HS.out.upd HU0.out) hc0 hm0).mono ?_
 rintro e w1 ⟨v, rfl, c, at_, hmay, herr, hu1⟩
 have hb1 := hu1.heap hb0 (by simp)
 have hc1 := hc0.upd hu1
 have hm1 := hm0.upd hu1
 have HU1 := Lib.hid (HU0.out.trans hu1)
 clear hb0 hc0 hm0 p0 p1 hu1 HU0
 by_cases hz : c = 0
 ·subst hz
  have hv : v = .nilIface := by
   rcases herr.2 with ⟨_, h⟩ | ⟨_, _, _, _, h, _⟩
   ·exact h
   ·exact absurd rfl h
  subst hv
  have HOK := Lib.hid hmay.ok
  clear hmay herr
  have p0 : w1.cell? ⟨w.heap.size, 0, none⟩ = some (.slice ca p.cs.length cc) := by rw [cell_of hb1]; rfl
  have p1 : w1.cell? ⟨w.heap.size, 1, none⟩ = some (.slice ma p.ms.length mc) := by rw [cell_of hb1]; rfl
  go_wp2_with fail
  refine (copied_any p _ _ w1 hc1 hm1 (by have := HOK.out.many; omega) (by have := HOK.out.few; omega) (fun j hj => by have := HOK.out.code1 j hj; omega)).mono ?_
  rintro e w3 ⟨cv', mv', rfl, hc3, hm3, hu3⟩
  have HU3 := Lib.hid (HU1.out.trans hu3)
  have hms3 := hm3
  have hcs3 := hc3
  obtain ⟨ca', cc', rfl, _⟩ := hcs3
  obtain ⟨ma', mc', rfl, hml, hmm, hmx⟩ := hms3
  have HMX := Lib.hid hmx
  have HC3 := Lib.hid hc3
  have HM3 := Lib.hid hm3
  unfold maxLen at hmm
  have hmany := HOK.out.many
  clear hc1 hm1 hb1 p0 p1 hu3 HU1 hmx hc3 hm3
  have HB4 := Lib.hid (heap_alloc_new w3 (.cells #[.slice ca' p.cs.length cc', .slice ma' p.ms.length mc', .slice none 0 0, .int .i64 0] 64))
  have HU4 := Lib.hid ((Upd.refl [] w3).alloc (.cells #[.slice ca' p.cs.length cc', .slice ma' p.ms.length mc', .slice none 0 0, .int .i64 0] 64))
  have hsz4 : w3.heap.size < (w3.alloc (.cells #[.slice ca' p.cs.length cc', .slice ma' p.ms.length mc', .slice none 0 0, .int .i64 0] 64)).heap.size := by simp
  go_upto_region 5 with fail
  generalize w3.alloc (.cells #[.slice ca' p.cs.length cc', .slice ma' p.ms.length mc', .slice none 0 0, .int .i64 0] 64) = w4 at HB4 HU4 hsz4 ⊢
  have hib : w.heap.size ≤ w3.heap.size := HU3.out.size
  have hib3 : w3.heap.size ≤ w3.heap.size := Nat.le_refl _
  generalize hibe : w3.heap.size = ib at HB4 hib hsz4 ⊢
  have HIBE := Lib.hid hibe
  clear hib3 hibe
  have b1 : w4.cell? ⟨ib, 1, none⟩ = some (.slice ma' p.ms.length mc') := by rw [cell_of HB4.out]; rfl
  go_wp2_with fail
  go_loopw [26] (fun iv wr => ∃ (i : Nat) (lv : Value) (ss : List Lk) (gg : List (Nat × Nat)), i ≤ p.ms.length ∧ iv = .int .i64 i ∧ Hid (OwnS wr (ib + 1) lv (p.ms.take i) ss gg) ∧ Hid (wr.heap[ib]? = some (.cells #[.slice ca' p.cs.length cc', .slice ma' p.ms.length mc', lv, .int .i64 0] 64)) ∧
   Hid (Upd [] w3 wr) ∧ Hid (∀ j, j < i → lookM p (p.ms.getD j default) = .ok (ss.getD j default) ∧ ib < (gg.getD j default).1 ∧ ib < (gg.getD j default).2)) (fun iv _ => p.ms.length - (intOf iv).toNat)
  case atStart => exact ⟨0, _, [], [], by omega, rfl, OwnS.nil _ _, HB4.out, HU4.out, (fun j hj => by omega : ∀ j, j < 0 → _)⟩
  case round =>
   clear b1 hsz4
   obtain ⟨i, lv, ss, gg, hi, rfl, HOS, HIB, HU, HLK⟩ := hrel
   obtain ⟨wo, rfl⟩ : ∃ wo : World, wo = wr := ⟨_, rfl⟩
   by_cases hlt : i < p.ms.length
   ·obtain ⟨b, o, rfl, hsz2, hm0, hm1, hm2, kv, hm3, hcode⟩ := HMX.out i hlt
    have hx0 := HU.out.cell hm0 (by simp)
    have hx1 := HU.out.cell hm1 (by simp)
    have hx2 := HU.out.cell hm2 (by simp)
    have hx3 := HU.out.cell hm3 (by simp)
    have hcode2 := hcode.upd HU.out
    have HTK : Hid (p.ms.take (i + 1) = p.ms.take i ++ [p.ms.getD i default]) := by
     show _ = _
     rw [List.take_succ_eq_append_getElem hlt, List.getD_eq_getElem?_getD, List.getElem?_eq_getElem hlt]; rfl
    have HLOOK := Lib.hid (fun w kv hS hc hm hcd => look_any p HOK.out i (.slice ca' p.cs.length cc') (.slice (some ⟨b, o, none⟩) p.ms.length mc') kv E w hS hc hm hlt hcd)
    have HC1 := Lib.hid (HOK.out.code1 i hlt)
    clear hm0 hm1 hm2 hm3 hcode hsz2
    generalize hmm2 : p.ms.getD i default = m at hx0 hx1 hx2 hx3 hcode2 HTK HLOOK HC1
    have HSS := Lib.hid hmm2
    clear hmm2
    obtain ⟨ka, kc, rfl, hkc⟩ := hcode2
    have hcode2 : CodeAt wo (.slice ka m.code.length kc) m.code := ⟨ka, kc, rfl, hkc⟩
    clear hkc
    have hau := (Upd.refl [] wo).alloc (.cells #[.string m.params, .string m.locals, .string m.ret, .slice ka m.code.length kc] 32)
    have hmb := heap_alloc_new wo (.cells #[.string m.params, .string m.locals, .string m.ret, .slice ka m.code.length kc] 32)
    have hib2 := hau.heap HIB.out (by simp)
    have HCD3 := Lib.hid (hcode2.upd hau)
    have HA3 := Lib.hid hau
    have HU5 := Lib.hid (HU.out.trans hau)
    go_upto_region 8 with fail
    generalize wo.alloc (.cells #[.string m.params, .string m.locals, .string m.ret, .slice ka m.code.length kc] 32) = w5 at hmb hib2 HCD3 HA3 HU5 ⊢
    generalize wo.heap.size = mb at hmb ⊢
    have hS0 : Six w5 ib mb (.slice ca' p.cs.length cc') (.slice (some ⟨b, o, none⟩) p.ms.length mc') m ka kc := ⟨by rw [cell_of hib2]; rfl, by rw [cell_of hib2]; rfl, by rw [cell_of hmb]; rfl, by rw [cell_of hmb]; rfl, by rw [cell_of hmb]; rfl, by rw [cell_of hmb]; rfl⟩
    have HLK2 := Lib.hid (fun w' (hu : Upd [] w5 w') => HLOOK.out w' (.slice ka m.code.length kc) (HS.out.upd ((HU3.out.trans HU5.out).trans hu)) (HC3.out.upd (HU5.out.trans hu)) (HM3.out.upd (HU5.out.trans hu)) (HCD3.out.upd hu))
    obtain ⟨h0, h1, h2, h3, h4, h5⟩ := hS0
    have k0 := fun o => ((Upd.refl [] w5).alloc o).cell h0 (by simp)
    have k1 := fun o => ((Upd.refl [] w5).alloc o).cell h1 (by simp)
    have k2 := fun o => ((Upd.refl [] w5).alloc o).cell h2 (by simp)
    have k3 := fun o => ((Upd.refl [] w5).alloc o).cell h3 (by simp)
    have k4 := fun o => ((Upd.refl [] w5).alloc o).cell h4 (by simp)
    have k5 := fun o => ((Upd.refl [] w5).alloc o).cell h5 (by simp)
    clear HLOOK hx0 hx1 hx2 hx3 hcode2 hau
    go_cut [8, 9, 10] from 32 to 41 (fun v8 v9 v10 wx => Hid (LookDone E w5 wx w5.heap.size m.code.length (lookM p m) v8 v9 v10))
    case first =>
     go_region_with ((go_at_call 16; refine (HLK2.out _ (by first | exact (Upd.refl [] w5).drew | exact ((Upd.refl [] w5).drew).alloc _)).mono ?_; rintro e w6 ⟨v, rfl, hv, hu6⟩; obtain ⟨a0, n0, a1, n1, mo, pcv, ev, rfl⟩ := hv.parts; first | (have hbx := box_after hu6; have t0 := hbx.1; have t1 := hbx.2.1; have t2 := hbx.2.2.1; have t3 := hbx.2.2.2.1; have t4 := hbx.2.2.2.2.1; have t5 := hbx.2.2.2.2.2.1; clear hbx) | skip))
     all_goals
      go_wp2_with fail
      go_meet
      refine Hid.mk ?_
      first
       | exact look_late hv hu6
       | exact look_early hv hu6
    case rest =>
     obtain ⟨xb, c0, c1, c2, rfl, hxb, hlv, hu6, hxg⟩ := hcut.out
     clear hcut k0 k1 k2 k3 k4 k5 h0 h1 h2 h3 h4 h5
     obtain ⟨w6, rfl⟩ : ∃ w6 : World, w6 = wc := ⟨_, rfl⟩
     have HU6 := Lib.hid (HU5.out.trans hu6)
     have hib6 := hu6.heap hib2 (by simp)
     cases hlm : lookM p m with
     | error e =>
      obtain ⟨c, pc⟩ := e
      rw [hlm] at hlv
      injection hlv with hlv
      injection hlv with hlv
      simp only [List.cons.injEq, and_true] at hlv
      obtain ⟨_, e9, e10⟩ := hlv
      subst e9
      have hc0 := look_code hlm
      rw [errC_form E c (by omega)] at e10
      subst e10
      have HEND := Lib.hid (show OfEnd p E w (.tuple #[.pointer none, .iface 71 (.pointer (some ⟨w6.heap.size, 0, none⟩))]) (w6.alloc (.cells #[.int .i64 i, .int .i64 pc, .iface 175 (.pointer (some (E (c - 101).toNat)))] 73)) from
       ⟨.inr (.inl ⟨HOK.out, i, c, pc, _, hlt, fun j hj => ⟨_, (HLK.out j hj).1⟩, by rw [HSS.out]; exact hlm, rfl, ErrV.where_ w6 E i pc c _ (errC_form E c (by omega)) (by omega)⟩), (HU3.out.trans HU6.out).alloc _⟩)
      clear hlm hc0 hxb hu6
      go_wp2_with fail
      go_ret2
      exact ⟨_, rfl, HEND.out⟩
     | ok s =>
      rw [hlm] at hlv
      obtain ⟨gs, gb, he, hlk, hg1, hg2, hg3, hg4⟩ := hlv
      injection he with he
      injection he with he
      simp only [List.cons.injEq, and_true] at he
      obtain ⟨e8, e9, e10⟩ := he
      subst e9
      subst e10
      injection e8 with e8
      injection e8 with e8
      simp only [List.cons.injEq, and_true] at e8
      obtain ⟨rfl, rfl, rfl⟩ := e8
      have HLM := Lib.hid hlm
      have x0 : w6.cell? ⟨xb, 0, none⟩ = some (.slice (some ⟨gs, 0, none⟩) m.code.length m.code.length) := by rw [cell_of hxb]; rfl
      have x1 : w6.cell? ⟨xb, 1, none⟩ = some (.slice (some ⟨gb, 0, none⟩) m.code.length m.code.length) := by rw [cell_of hxb]; rfl
      have x2 : w6.cell? ⟨xb, 2, none⟩ = some (.int .i64 s.most) := by rw [cell_of hxb]; rfl
      clear hlm
      have hkl3 : (p.ms.take i).length = i := by rw [List.length_take]; omega
      have HKL := Lib.hid hkl3
      obtain ⟨lp, lc, hlv2⟩ := HOS.out.shape
      rw [hkl3] at hlv2
      subst hlv2
      have HLKA := Lib.hid hlk
      have HOS6 := Lib.hid ((HOS.out.updT HA3.out (by simp) (by simp)).updT hu6 (by simp) (by simp))
      have HRW := Lib.hid (World.ownsRow.drew (HKL.out ▸ HOS6.out.row))
      have HKL1 : Hid ((p.ms.take i ++ [m]).length = i + 1) := by show _ = _; rw [List.length_append, hkl3]; rfl
      have l0 : w6.cell? ⟨ib, 2, none⟩ = some (.slice lp i lc) := by rw [cell_of hib6]; rfl
      have l1 := fun o => ((Upd.refl [] w6).alloc o).cell l0 (by simp)
      have z0 := fun o => ((Upd.refl [] w6).drew.alloc o).cell x0 (by simp)
      have z1 := fun o => ((Upd.refl [] w6).drew.alloc o).cell x1 (by simp)
      have z2 := fun o => ((Upd.refl [] w6).drew.alloc o).cell x2 (by simp)
      have hxm : ib < xb := by have := HOS.out; have := HA3.out.size; have := lt_of_heap HIB.out; omega
      have hsx : wo.heap.size ≤ xb := by have := HA3.out.size; omega
      have hbl : ∀ k, (Value.slice lp i lc).ownBlock = some k → k < wo.heap.size := fun k hk => (HOS.out.blk k hk).2.1
      have HBL := Lib.hid hbl
      have hib6l := lt_of_heap hib6
      clear hkl3 hlk hbl
      go_upto_region 11 with fail
      refine wp_region_noPanic ?_
      refine wp_region_held_drew (S := fun w' => w'.cell? ⟨xb, 0, none⟩ = some (.slice (some ⟨gs, 0, none⟩) m.code.length m.code.length) ∧ w'.cell? ⟨xb, 1, none⟩ = some (.slice (some ⟨gb, 0, none⟩) m.code.length m.code.length) ∧ w'.cell? ⟨xb, 2, none⟩ = some (.int .i64 s.most)) (by kernel_rfl) ?_ (fun hHeld => ?_)
      ·first | exact ⟨x0, x1, x2⟩ | exact ⟨z0 _, z1 _, z2 _⟩ | exact ⟨q0, q1, q2⟩ | exact ⟨r0 _, r1 _, r2 _⟩
      refine wpAnyH_take (i := 0) (oi := ?_) (v := ?_) ?_ (by kernel_rfl) (by kernel_rfl) (by kernel_rfl) (fun _ _ _ h => h) (Or.inl ⟨?_, ?_⟩) hHeld ?_
      rotate_left 2
      ·simp only [List.getElem?_toArray, List.getElem?_cons_zero]; rfl
      ·rfl
      ·intro _ hSw; (try dsimp only at hSw); go_simp <;> with_reducible rfl
      (try simp only [Act.put, List.setIfInBounds_toArray, List.set_cons_zero, List.set_cons_succ])
      refine wpAnyH_take (i := 1) (oi := ?_) (v := ?_) ?_ (by kernel_rfl) (by kernel_rfl) (by kernel_rfl) (fun _ _ _ h => h) (Or.inl ⟨?_, ?_⟩) hHeld ?_
      rotate_left 2
      ·simp only [List.getElem?_toArray, List.getElem?_cons_zero, List.getElem?_cons_succ]; rfl
      ·rfl
      ·intro _ hSw; (try dsimp only at hSw); go_simp <;> with_reducible rfl
      (try simp only [Act.put, List.setIfInBounds_toArray, List.set_cons_zero, List.set_cons_succ])
      refine wpAnyH_take (i := 2) (oi := ?_) (v := ?_) ?_ (by kernel_rfl) (by kernel_rfl) (by kernel_rfl) (fun _ _ _ h => h) (Or.inl ⟨?_, ?_⟩) hHeld ?_
      rotate_left 2
      ·simp only [List.getElem?_toArray, List.getElem?_cons_zero, List.getElem?_cons_succ]; rfl
      ·rfl
      ·intro _ hSw; (try dsimp only at hSw); go_simp <;> with_reducible rfl
      (try simp only [Act.put, List.setIfInBounds_toArray, List.set_cons_zero, List.set_cons_succ])
      refine wpAnyH_take (i := 3) (oi := ?_) (v := ?_) ?_ (by kernel_rfl) (by kernel_rfl) (by kernel_rfl) (fun _ _ _ h => h) (Or.inl ⟨?_, ?_⟩) hHeld ?_
      rotate_left 2
      ·simp only [List.getElem?_toArray, List.getElem?_cons_zero, List.getElem?_cons_succ]; rfl
      ·rfl
      ·intro _ hSw; (try dsimp only at hSw); go_simp <;> with_reducible rfl
      (try simp only [Act.put, List.setIfInBounds_toArray, List.set_cons_zero, List.set_cons_succ])
      refine wpAnyH_take (i := 5) (oi := ?_) (v := ?_) ?_ (by kernel_rfl) (by kernel_rfl) (by kernel_rfl) (fun _ _ _ h => h) (Or.inl ⟨?_, ?_⟩) hHeld ?_
      rotate_left 2
      ·simp only [List.getElem?_toArray, List.getElem?_cons_zero, List.getElem?_cons_succ]; rfl
      ·rfl
      ·intro _ hSw; (try dsimp only at hSw); go_simp <;> with_reducible rfl
      (try simp only [Act.put, List.setIfInBounds_toArray, List.set_cons_zero, List.set_cons_succ])
      refine wpAnyH_ready (rs := [4, 6]) (by kernel_rfl) (by simp) ?_
      refine (AllReadyH.cons (o := ?o4) ?ho4 (fun K hK => ?w4) (AllReadyH.cons (o := ?o6) ?ho6 (fun K hK => ?w6) AllReadyH.nil))
      case ho4 => (simp only [List.getElem?_toArray, List.getElem?_cons_zero, List.getElem?_cons_succ]; rfl)
      case ho6 => (simp only [List.getElem?_toArray, List.getElem?_cons_zero, List.getElem?_cons_succ]; rfl)
      case' w4 =>
       clear hHeld
       go_simp
       refine hK.out _ _ ?_ (fun hHeld => ?_)
       ·first | exact ⟨x0, x1, x2⟩ | exact ⟨z0 _, z1 _, z2 _⟩ | exact ⟨q0, q1, q2⟩ | exact ⟨r0 _, r1 _, r2 _⟩
       clear hK K
       (try simp only [Act.put, List.setIfInBounds_toArray, List.set_cons_zero, List.set_cons_succ])
       refine wpAnyH_ready (rs := [6]) (by kernel_rfl) (by simp) ?_
       refine AllReadyH.cons (o := ?_) ?_ (fun K hK => ?_) AllReadyH.nil
       rotate_left 1
       ·simp only [List.getElem?_toArray, List.getElem?_cons_zero, List.getElem?_cons_succ]; rfl
       clear hHeld
       go_simp
       refine hK.out _ _ ?_ (fun hHeld => ?_)
       ·first | exact ⟨x0, x1, x2⟩ | exact ⟨z0 _, z1 _, z2 _⟩ | exact ⟨q0, q1, q2⟩ | exact ⟨r0 _, r1 _, r2 _⟩
       clear hK K
       (try simp only [Act.put, List.setIfInBounds_toArray, List.set_cons_zero, List.set_cons_succ])
      case' w6 =>
       clear hHeld
       go_simp
       refine hK.out _ _ ?_ (fun hHeld => ?_)
       ·first | exact ⟨x0, x1, x2⟩ | exact ⟨z0 _, z1 _, z2 _⟩ | exact ⟨q0, q1, q2⟩ | exact ⟨r0 _, r1 _, r2 _⟩
       clear hK K
       (try simp only [Act.put, List.setIfInBounds_toArray, List.set_cons_zero, List.set_cons_succ])
       refine wpAnyH_ready (rs := [4]) (by kernel_rfl) (by simp) ?_
       refine AllReadyH.cons (o := ?_) ?_ (fun K hK => ?_) AllReadyH.nil
       rotate_left 1
       ·simp only [List.getElem?_toArray, List.getElem?_cons_zero, List.getElem?_cons_succ]; rfl
       clear hHeld
       go_simp
       refine hK.out _ _ ?_ (fun hHeld => ?_)
       ·first | exact ⟨x0, x1, x2⟩ | exact ⟨z0 _, z1 _, z2 _⟩ | exact ⟨q0, q1, q2⟩ | exact ⟨r0 _, r1 _, r2 _⟩
       clear hK K
       (try simp only [Act.put, List.setIfInBounds_toArray, List.set_cons_zero, List.set_cons_succ])
      all_goals
       refine wpAnyH_ready (rs := [7]) (by kernel_rfl) (by simp) ?_
       refine AllReadyH.cons (o := ?_) ?_ (fun K hK => ?_) AllReadyH.nil
       rotate_left 1
       ·simp only [List.getElem?_toArray, List.getElem?_cons_zero, List.getElem?_cons_succ]; rfl
       clear hHeld
       (refine step_append_own_at rfl (.tmp 54) (.tmp 56) 57 rfl (ib + 1) 68 ti _ 3 56 Tryd.underlying57 HTI.out HTZ0.out HTZ1.out HTZ2.out rfl (by decide) _ _ _ rfl (HRW.out.alloc _) ⟨w6.heap.size, 0, none⟩ 1 1 (lcell m.code.length gs gb s) rfl rfl (cell_news _ _ _) (by simp [lcell, Value.oneCell']) (by unfold maxLen; omega) (by omega) (by simp; omega) ?_; intro v' w7 hown hgr hat; obtain ⟨HP7, HU7, HB7⟩ := info_push HOS6.out HLKA.out HKL.out hown hgr; have q0 := HU7.cell x0 (fun hm => by have := HBL.out _ (Option.mem_toList.1 hm); simp at this; omega); have q1 := HU7.cell x1 (fun hm => by have := HBL.out _ (Option.mem_toList.1 hm); simp at this; omega); have q2 := HU7.cell x2 (fun hm => by have := HBL.out _ (Option.mem_toList.1 hm); simp at this; omega); have hib7 := HU7.heap hib6 (fun hm => by have := HB7 _ hm; omega); have l7 : w7.cell? ⟨ib, 2, none⟩ = some (.slice lp i lc) := (by rw [cell_of hib7]; rfl); have f7 := froz_of hib7 2; have r0 := fun v => ((Upd.refl [ib] w7).setCell (p := ⟨ib, 2, none⟩) (Or.inl (by simp)) v).cell q0 (fun hm => by simp only [List.mem_singleton] at hm; omega); have r1 := fun v => ((Upd.refl [ib] w7).setCell (p := ⟨ib, 2, none⟩) (Or.inl (by simp)) v).cell q1 (fun hm => by simp only [List.mem_singleton] at hm; omega); have r2 := fun v => ((Upd.refl [ib] w7).setCell (p := ⟨ib, 2, none⟩) (Or.inl (by simp)) v).cell q2 (fun hm => by simp only [List.mem_singleton] at hm; omega); have HU73 : Hid (Upd [] w3 w7) := HU6.out.trans' HU7 (fun k hk hl => by have := HB7 k hk; have := HIBE.out; omega); have HP7' := Lib.hid HP7; obtain ⟨p7, c7, hv7⟩ := HP7.shape; rw [HKL1.out] at hv7; subst hv7; have HIB7 := Lib.hid hib7; clear HP7 HU7 HB7 hown hgr hat)
       refine hK.out _ _ ?_ (fun hHeld => ?_)
       ·first | exact ⟨x0, x1, x2⟩ | exact ⟨z0 _, z1 _, z2 _⟩ | exact ⟨q0, q1, q2⟩ | exact ⟨r0 _, r1 _, r2 _⟩
       clear hK K
       (try simp only [Act.put, List.setIfInBounds_toArray, List.set_cons_zero, List.set_cons_succ])
       refine wpAnyH_take (i := 8) (oi := ?_) (v := ?_) ?_ (by kernel_rfl) (by kernel_rfl) (by kernel_rfl) (fun _ _ _ h => h) (Or.inl ⟨?_, ?_⟩) hHeld ?_
       rotate_left 2
       ·simp only [List.getElem?_toArray, List.getElem?_cons_zero, List.getElem?_cons_succ]; rfl
       ·rfl
       ·intro _ hSw; (try dsimp only at hSw); go_simp <;> with_reducible rfl
       (try simp only [Act.put, List.setIfInBounds_toArray, List.set_cons_zero, List.set_cons_succ])
       refine wpAnyH_take (i := 9) (oi := ?_) (v := ?_) ?_ (by kernel_rfl) (by kernel_rfl) (by kernel_rfl) (fun _ _ _ h => h) (Or.inl ⟨?_, ?_⟩) hHeld ?_
       rotate_left 2
       ·simp only [List.getElem?_toArray, List.getElem?_cons_zero, List.getElem?_cons_succ]; rfl
       ·rfl
       ·intro _ hSw; (try dsimp only at hSw); go_simp <;> with_reducible rfl
       (try simp only [Act.put, List.setIfInBounds_toArray, List.set_cons_zero, List.set_cons_succ])
       refine wpAnyH_ready (rs := [10]) (by kernel_rfl) (by simp) ?_
       refine AllReadyH.cons (o := ?_) ?_ (fun K hK => ?_) AllReadyH.nil
       rotate_left 1
       ·simp only [List.getElem?_toArray, List.getElem?_cons_zero, List.getElem?_cons_succ]; rfl
       clear hHeld
       go_simp
       refine hK.out _ _ ?_ (fun hHeld => ?_)
       ·first | exact ⟨x0, x1, x2⟩ | exact ⟨z0 _, z1 _, z2 _⟩ | exact ⟨q0, q1, q2⟩ | exact ⟨r0 _, r1 _, r2 _⟩
       clear hK K
       (try simp only [Act.put, List.setIfInBounds_toArray, List.set_cons_zero, List.set_cons_succ])
       refine wpAnyH_done (by kernel_rfl) ?_ _
       refine NoPanic.normal ?_
       go_wp2_with fail
       have hst8 : Upd [ib] w7 (w7.setCell ⟨ib, 2, none⟩ (.slice p7 (i + 1) c7)) := (Upd.refl _ _).setCell (.inl (by simp)) _
       have HU8 : Hid (Upd [] w3 _) := HU73.out.trans' hst8 (fun q hq hl => by simp at hq; have := HIBE.out; omega)
       have HIB8 : Hid ((w7.setCell ⟨ib, 2, none⟩ (.slice p7 (i + 1) c7)).heap[ib]? = some (.cells #[.slice ca' p.cs.length cc', .slice (some ⟨b, o, none⟩) p.ms.length mc', .slice p7 (i + 1) c7, .int .i64 0] 64)) := by
        show _ = _
        rw [heap_setCell HIB7.out]
        simp
       have HGG : Hid (∀ j, j < i + 1 → lookM p (p.ms.getD j default) = .ok ((ss ++ [s]).getD j default) ∧ ib < ((gg ++ [(gs, gb)]).getD j default).1 ∧ ib < ((gg ++ [(gs, gb)]).getD j default).2) := fun j hj => by
        have hl1 := HOS6.out.len
        have hl2 := HOS6.out.len2
        have hl3 := HKL.out
        have hws := HA3.out.size
        have hib9 := lt_of_heap HIB.out
        by_cases e : j < i
        ·rw [getD_snoc_lt _ _ _ _ (by omega), getD_snoc_lt _ _ _ _ (by omega)]
         exact HLK.out j e
        ·have e1 : j = ss.length := by omega
         have e2 : j = gg.length := by omega
         have e3 : (ss ++ [s]).getD j default = s := by rw [e1]; exact getD_snoc_eq _ _ _
         have e4 : (gg ++ [(gs, gb)]).getD j default = (gs, gb) := by rw [e2]; exact getD_snoc_eq _ _ _
         have e5 : j = i := by omega
         rw [e3, e4, e5, HSS.out]
         exact ⟨HLM.out, by show ib < gs; omega, by show ib < gb; omega⟩
       have HP8 := Lib.hid (HTK.out ▸ HP7'.out.updT hst8 (fun q hq hm => by have := (HP7'.out.blk q hq).1; simp at hm; omega) (fun j hj => by
        have := HGG.out j (by have := HKL1.out; omega)
        exact ⟨fun hm => by rw [List.mem_singleton] at hm; omega, fun hm => by rw [List.mem_singleton] at hm; omega⟩))
       clear hst8 hHeld q0 q1 q2 r0 r1 r2 l7 f7
       go_roundw
       case rel => exact ⟨i + 1, _, _, _, by omega, by go_num, HP8.out, HIB8.out, HU8.out, HGG.out⟩
       case measure => simp [intOf]; omega
   ·obtain rfl : i = p.ms.length := by omega
    have HTA : Hid (p.ms.take p.ms.length = p.ms) := List.take_length
    have HOS2 : Hid (OwnS wo (ib + 1) lv p.ms ss gg) := HTA.out ▸ HOS.out
    have HEND := Lib.hid (show OfEnd p E w (.tuple #[.pointer (some ⟨ib, 0, none⟩), .nilIface]) wo from by
     have hoff : Upd [ib] wo (offW wo ib) := ⟨rfl, rfl, rfl, by rw [offW_size]; exact Nat.le_refl _, fun k _ hk => offW_heap _ _ _ (by simpa using hk)⟩
     have hnew := offW_new HU.out (b := ib) (Nat.le_of_eq HIBE.out)
     refine ⟨.inr (.inr ⟨HOK.out, ib, ss, HOS2.out.len, fun j hj => (HLK.out j hj).1, rfl, ⟨_, _, _, HIB.out, HC3.out.upd hnew, HM3.out.upd hnew, ?_⟩, hib, lt_of_heap HIB.out⟩), HU3.out.trans HU.out⟩
     refine (HOS2.out.updT hoff (fun q hq hm => by have := (HOS2.out.blk q hq).1; simp at hm; omega) (fun i hi => ?_)).looks (fun i hi => ?_)
     ·have := HLK.out i hi
      exact ⟨fun hm => by rw [List.mem_singleton] at hm; omega, fun hm => by rw [List.mem_singleton] at hm; omega⟩
     ·have hg := look_good (by have := HOK.out.code1 i hi; omega) (HLK.out i hi).1
      exact ⟨hg.2.1.stk, hg.2.1.seen⟩)
    go_wp2_with fail
    go_ret2
    exact ⟨_, rfl, HEND.out⟩
 ·have HEND := Lib.hid (show OfEnd p E w (.tuple #[.pointer none, v]) w1 from ⟨.inl ⟨c, at_, v, hmay, hz, rfl, herr⟩, HU1.out⟩)
  rcases herr.2 with ⟨_, h⟩ | ⟨bb, _, _, _, _, h, _⟩
  ·rw [errC_form E c hz] at h
   subst h
   clear herr hmay hz hb1 hc1 hm1
   go_wp2_with fail
   go_ret2
   exact ⟨_, rfl, HEND.out⟩
  ·subst h
   clear herr hmay hz hb1 hc1 hm1
   go_wp2_with fail
   go_ret2
   exact ⟨_, rfl, HEND.out⟩
end Go.Proofs.YtojobkhidlfeoaaDoor
