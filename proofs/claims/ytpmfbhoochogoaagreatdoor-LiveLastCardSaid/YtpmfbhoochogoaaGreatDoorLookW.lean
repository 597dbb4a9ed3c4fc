/- verify.look. -/
import Derived.Test.YtpmfbhoochogoaaGreatDoorLookA
import Derived.Test.YtpmfbhoochogoaaGreatDoorVerL5
namespace Go.Proofs.YtpmfbhoochogoaaGreatDoor
open Go.RowKit

/-- What the region that asks step reads. -/
abbrev Nine (wr w : World) (xb gs j bk o : Nat) (cv mv : Value) (m : Meth) (kc : Nat) (x : Ins) (st : List UInt8) : Prop :=
  wr.cell? ⟨w.heap.size, 0, none⟩ = some cv ∧ wr.cell? ⟨w.heap.size, 1, none⟩ = some mv ∧ wr.cell? ⟨w.heap.size + 1, 3, none⟩ = some (.slice (some ⟨bk, o, none⟩) m.code.length kc) ∧ wr.cell? ⟨xb, 0, none⟩ = some (.slice (some ⟨gs, 0, none⟩) m.code.length m.code.length) ∧ wr.cell? ⟨gs, j, none⟩ = some (.string (bs st)) ∧ wr.cell? ⟨bk, o + j * 4, none⟩ = some (.int .i64 x.op) ∧ wr.cell? ⟨bk, o + j * 4 + 1, none⟩ = some (.int .i64 x.a) ∧ wr.cell? ⟨bk, o + j * 4 + 2, none⟩ = some (.int .i64 x.b) ∧ wr.cell? ⟨bk, o + j * 4 + 3, none⟩ = some (.int .i64 x.n)
theorem Nine.upd {wr w' w : World} {xb gs j bk o : Nat} {cv mv : Value} {m : Meth} {kc : Nat} {x : Ins} {st : List UInt8} (h : Nine wr w xb gs j bk o cv mv m kc x st) (hu : Upd [] wr w') : Nine w' w xb gs j bk o cv mv m kc x st := by
  obtain ⟨h0, h1, h2, h3, h4, h5, h6, h7, h8⟩ := h
  exact ⟨hu.cell h0 (by simp), hu.cell h1 (by simp), hu.cell h2 (by simp), hu.cell h3 (by simp), hu.cell h4 (by simp), hu.cell h5 (by simp), hu.cell h6 (by simp), hu.cell h7 (by simp), hu.cell h8 (by simp)⟩

set_option maxRecDepth 100000 in
set_option maxHeartbeats 8000000 in
theorem look_any (p : Prg) (hok : p.Ok) (k : Nat) (cv mv kv : Value) (E : Nat → Addr) (w : World) (hS : SentAt w E) (hc : ClassAt w cv p.cs) (hm : MethsAt w mv p.ms) (hk : k < p.ms.length) (hcode : CodeAt w kv (p.ms.getD k default).code) :
    Calls Tryz.prog 51 #[.agg #[cv, mv], .int .i64 k, .agg #[.string (p.ms.getD k default).params, .string (p.ms.getD k default).locals, .string (p.ms.getD k default).ret, kv]] w fun e w' => ∃ v, e = .returned v ∧ lookV E w' w.heap.size v (p.ms.getD k default).code.length (lookM p (p.ms.getD k default)) ∧ Upd [] w w' := by
  have HSTEP := Lib.hid (fun (q : Nat) (hq : q < (p.ms.getD k default).code.length) (s : ByteArray) w hS hc hm (hs : s.size ≤ 1000) => step_any p hok k cv mv ((p.ms.getD k default).code.getD q default) s E w hS hc hm hk (hok.op k hk q hq) hs)
  obtain ⟨hcd1, hcd2⟩ := hok.code1 k hk
  have HJ : Hid (∀ q, q < (p.ms.getD k default).code.length → ∀ x ∈ nextL (p.ms.getD k default).code q, 0 ≤ x) := fun q hq => next_ge hok k hk q hq
  have HS := Lib.hid hS
  have HC := Lib.hid hc
  have HM := Lib.hid hm
  have HCODE := Lib.hid hcode
  clear hS hc hm
  generalize p.ms.getD k default = m at *
  obtain ⟨kp, kc, rfl, hkl, hkm, hkx⟩ := hcode
  unfold maxLen at hkm
  have HKX := Lib.hid hkx
  clear hkx
  go_enter Tryz.func51, Tryz.ntmps51
  go_upto_region 1 with fail
  have hS0 := (((Upd.refl [] w).alloc (.cells #[cv, mv] 36)).alloc (.cells #[.string m.params, .string m.locals, .string m.ret, .slice kp m.code.length kc] 27)).alloc (.cells #[.slice none 0 0, .slice none 0 0, .int .i64 0] 107)
  have hp0 := ((((Upd.refl [] _).alloc (.cells #[.string m.params, .string m.locals, .string m.ret, .slice kp m.code.length kc] 27)).alloc (.cells #[.slice none 0 0, .slice none 0 0, .int .i64 0] 107))).heap (heap_alloc_new w (.cells #[cv, mv] 36)) (by simp)
  have hm0 := ((Upd.refl [] _).alloc (.cells #[.slice none 0 0, .slice none 0 0, .int .i64 0] 107)).heap (heap_alloc_new (w.alloc (.cells #[cv, mv] 36)) (.cells #[.string m.params, .string m.locals, .string m.ret, .slice kp m.code.length kc] 27)) (by simp)
  have hr0 := heap_alloc_new ((w.alloc (.cells #[cv, mv] 36)).alloc (.cells #[.string m.params, .string m.locals, .string m.ret, .slice kp m.code.length kc] 27)) (.cells #[.slice none 0 0, .slice none 0 0, .int .i64 0] 107)
  have s1 : (w.alloc (.cells #[cv, mv] 36)).heap.size = w.heap.size + 1 := by simp
  have s2 : ((w.alloc (.cells #[cv, mv] 36)).alloc (.cells #[.string m.params, .string m.locals, .string m.ret, .slice kp m.code.length kc] 27)).heap.size = w.heap.size + 1 + 1 := by simp
  rw [s1] at hm0
  rw [s2] at hr0
  clear s1 s2
  generalize hw0 : ((w.alloc (.cells #[cv, mv] 36)).alloc (.cells #[.string m.params, .string m.locals, .string m.ret, .slice kp m.code.length kc] 27)).alloc (.cells #[.slice none 0 0, .slice none 0 0, .int .i64 0] 107) = w0 at hS0 hp0 hm0 hr0 ⊢
  have hz0 : w0.heap.size = w.heap.size + 3 := by rw [← hw0]; simp
  clear hw0
  have q3 : w0.cell? ⟨w.heap.size + 1, 3, none⟩ = some (.slice kp m.code.length kc) := by rw [cell_of hm0]; rfl
  have q3a : ∀ o, (w0.alloc o).cell? ⟨w.heap.size + 1, 3, none⟩ = some (.slice kp m.code.length kc) := fun o => ((Upd.refl [] w0).alloc o).cell q3 (by simp)
  have q3b : ∀ o o', ((w0.alloc o).alloc o').cell? ⟨w.heap.size + 1, 3, none⟩ = some (.slice kp m.code.length kc) := fun o o' => (((Upd.refl [] w0).alloc o).alloc o').cell q3 (by simp)
  have HZ0 := Lib.hid hz0
  have HP0 := Lib.hid hp0
  have HM0 := Lib.hid hm0
  have HR0 := Lib.hid hr0
  have HU0 := Lib.hid hS0
  clear hz0 hp0 hm0 hr0 hS0
  have hmk1 := fun W => make_strs W m.code.length (by omega)
  have hmk2 := fun W => make_bools W m.code.length (by omega)
  go_cut [9] from 16 to 24 (fun v9 wx => Hid (LookPre m.code.length w0 wx v9))
  case first =>
    go_region
    all_goals
      go_wp2_with fail
      go_meet
      refine Hid.mk ?_
      first
        | exact ⟨_, _, _, rfl, (alloc3 w0 _ _ _).2.2, (alloc3 w0 _ _ _).1, (alloc3 w0 _ _ _).2.1, by omega, upd3 w0 _ _ _⟩
        | exact ⟨_, _, _, rfl, (alloc3 w0 _ _ _).2.2, (alloc3 w0 _ _ _).2.1, (alloc3 w0 _ _ _).1, by omega, upd3 w0 _ _ _⟩
        | exact ⟨_, _, _, rfl, (alloc3 w0 _ _ _).2.1, (alloc3 w0 _ _ _).1, (alloc3 w0 _ _ _).2.2, by omega, upd3 w0 _ _ _⟩
        | exact ⟨_, _, _, rfl, (alloc3 w0 _ _ _).2.1, (alloc3 w0 _ _ _).2.2, (alloc3 w0 _ _ _).1, by omega, upd3 w0 _ _ _⟩
        | exact ⟨_, _, _, rfl, (alloc3 w0 _ _ _).1, (alloc3 w0 _ _ _).2.1, (alloc3 w0 _ _ _).2.2, by omega, upd3 w0 _ _ _⟩
        | exact ⟨_, _, _, rfl, (alloc3 w0 _ _ _).1, (alloc3 w0 _ _ _).2.2, (alloc3 w0 _ _ _).2.1, by omega, upd3 w0 _ _ _⟩
  case rest =>
    clear q3a q3b
    obtain ⟨xb, gs, gb, rfl, hx, hgs, hgb, ⟨ne1, ne2, ne3, ne4, ne5, ne6⟩, hu⟩ := hcut.out
    clear hcut
    obtain ⟨w1, rfl⟩ : ∃ w1 : World, w1 = wc := ⟨_, rfl⟩
    have l1 := lt_of_heap hx
    have l2 := lt_of_heap hgs
    have l3 := lt_of_heap hgb
    have z0 := HZ0.out
    have ha := (Upd.refl [] w1).alloc (.cells (bcells (List.replicate m.code.length false)) 4)
    have q3 := hu.cell q3 (by simp)
    have hl0 : LookIn w (w1.alloc (.cells (bcells (List.replicate m.code.length false)) 4)) cv mv (.slice kp m.code.length kc) m m.code.length xb gs gb w1.heap.size ⟨List.replicate m.code.length false, List.replicate m.code.length [], List.replicate m.code.length false, 0⟩ :=
      ⟨(hu.trans ha).heap HP0.out (by simp), (hu.trans ha).heap HM0.out (by simp), (hu.trans ha).heap HR0.out (by simp), ha.heap hx (by simp), ha.heap hgs (by simp), ha.heap hgb (by simp), heap_alloc_new w1 _, HU0.out.trans (hu.trans ha), by omega, by omega⟩
    clear hx hgs hgb ha HP0 HM0 HR0
    go_upto_region 3 with fail
    generalize w1.alloc (.cells (bcells (List.replicate m.code.length false)) 4) = w2 at hl0 ⊢
    generalize w1.heap.size = db at hl0 ⊢
    have x1 : w2.cell? ⟨xb, 1, none⟩ = some (.slice (some ⟨gb, 0, none⟩) m.code.length m.code.length) := by rw [cell_of hl0.hxb]; rfl
    have b0 : w2.cell? ⟨gb, 0, none⟩ = some (.bool false) := by rw [cell_of hl0.hgb, bcells_get _ _ (by simp; omega), List.getD_eq_getElem?_getD, List.getElem?_replicate]; split <;> rfl
    have f0 := froz_of hl0.hgb 0
    have HL0 := Lib.hid (hl0.see 0)
    clear q3 l1 l2 l3 z0 ne1 ne2 ne3 ne4 ne5 ne6 hu hl0 HU0 HZ0
    go_wp2_with fail
    go_loopw [11] (fun _ wr => ∃ (i : Nat) (s : Lk), Hid (Lk.Mid p m i s) ∧ Hid (LookIn w wr cv mv (.slice kp m.code.length kc) m m.code.length xb gs gb db s)) (fun _ wr => openN wr db)
    case atStart => exact ⟨0, _, Lk.Mid.start p m, HL0.out⟩
    case round =>
      clear HL0 x1 b0 f0
      obtain ⟨i, s, HI, HL⟩ := hrel
      obtain ⟨wo, rfl⟩ : ∃ wo : World, wo = wr := ⟨_, rfl⟩
      have hok2 := HI.out.ok
      have ks := hok2.seen
      have kd := hok2.done
      have kt := hok2.stk
      have KS := Lib.hid ks
      have KD := Lib.hid kd
      have KT := Lib.hid kt
      have KL := Lib.hid hok2.low
      have KM := Lib.hid hok2.most
      clear ks kd kt hok2
      have m3 : wo.cell? ⟨w.heap.size + 1, 3, none⟩ = some (.slice kp m.code.length kc) := by rw [cell_of HL.out.hmb]; rfl
      have x0 : wo.cell? ⟨xb, 0, none⟩ = some (.slice (some ⟨gs, 0, none⟩) m.code.length m.code.length) := by rw [cell_of HL.out.hxb]; rfl
      have x1 : wo.cell? ⟨xb, 1, none⟩ = some (.slice (some ⟨gb, 0, none⟩) m.code.length m.code.length) := by rw [cell_of HL.out.hxb]; rfl
      have x2 : wo.cell? ⟨xb, 2, none⟩ = some (.int .i64 s.most) := by rw [cell_of HL.out.hxb]; rfl
      go_wp2_with fail
      go_loopw [11] (fun v wr => ∃ j : Nat, j ≤ m.code.length ∧ v = .int .i64 j ∧ wo = wr ∧ Hid (∀ q, q < j → (s.seen.getD q false && !s.done.getD q false) = false)) (fun v _ => m.code.length - (intOf v).toNat)
      case atStart => exact ⟨0, by omega, rfl, rfl, (fun q hq => by omega : ∀ q, q < 0 → _)⟩
      case round =>
        obtain ⟨j, hj, rfl, rfl, HJJ⟩ := hrel
        by_cases hlt : j < m.code.length
        · have sj : wo.cell? ⟨gb, j, none⟩ = some (.bool (s.seen.getD j false)) := by rw [cell_of HL.out.hgb, bcells_get _ _ (by rw [KS.out]; exact hlt)]
          have dj : wo.cell? ⟨db, j, none⟩ = some (.bool (s.done.getD j false)) := by rw [cell_of HL.out.hdb, bcells_get _ _ (by rw [KD.out]; exact hlt)]
          cases hsj : s.seen.getD j false with
          | false =>
            rw [hsj] at sj
            have HSJ := Lib.hid hsj
            clear hsj
            go_wp2_with fail
            go_roundw
            case rel =>
              refine ⟨j + 1, by omega, by go_num, trivial, (fun q hq => ?_ : ∀ q, q < j + 1 → _)⟩
              by_cases e : q = j
              · subst e; rw [HSJ.out]; rfl
              · exact HJJ.out q (by omega)
            case measure => simp [intOf]; omega
          | true =>
            rw [hsj] at sj
            have HSJ := Lib.hid hsj
            clear hsj
            cases hdj : s.done.getD j false with
            | true =>
              rw [hdj] at dj
              have HDJ := Lib.hid hdj
              clear hdj
              go_wp2_with fail
              go_roundw
              case rel =>
                refine ⟨j + 1, by omega, by go_num, trivial, (fun q hq => ?_ : ∀ q, q < j + 1 → _)⟩
                by_cases e : q = j
                · subst e; rw [HDJ.out, Bool.not_true, Bool.and_false]
                · exact HJJ.out q (by omega)
              case measure => simp [intOf]; omega
            | false =>
              rw [hdj] at dj
              have HP : Hid (s.pick m.code.length = j) := pick_at hlt HSJ.out hdj HJJ.out
              clear hdj
              have dn0 : ((j : Int) == (m.code.length : Int)) = false := by rw [beq_eq_false_iff_ne]; omega
              have fd := froz_of HL.out.hdb j
              go_upto_region 10 with fail
              -- <F
              have HD1 := Lib.hid (HL.out.done_ j)
              clear m3 x0 x1 x2 sj dj fd dn0
              generalize wo.setCell ⟨db, j, none⟩ (.bool true) = w2 at HD1 ⊢
              generalize hst : s.stk.getD j [] = st
              have HST := Lib.hid hst
              have hsl : st.length ≤ 12 := by rw [← hst]; exact KL.out j
              clear hst
              obtain ⟨bk, ok, rfl, _, hxi⟩ := HKX.out j hlt
              have HSS := Lib.hid (HSTEP.out j hlt (bs st) w2.drew)
              rw [bs_list] at HSS
              have hop := hok
              generalize hxx : m.code.getD j default = x at HSS hxi
              have HXX := Lib.hid hxx
              clear hxx hop
              have hu2 := HD1.out.upd
              have HF0 : Nine w2 w xb gs j bk ok cv mv m kc x st := ⟨by rw [cell_of HD1.out.hpb]; rfl, by rw [cell_of HD1.out.hpb]; rfl, by rw [cell_of HD1.out.hmb]; rfl, by rw [cell_of HD1.out.hxb]; rfl, by
                rw [cell_of HD1.out.hgs, scells_get _ _ (by show j < s.stk.length; rw [KT.out]; exact hlt)]
                show some (Value.string (bs (s.stk.getD j []))) = _
                rw [HST.out], hu2.cell hxi.1 (by simp), hu2.cell hxi.2.1 (by simp), hu2.cell hxi.2.2.1 (by simp), hu2.cell hxi.2.2.2 (by simp)⟩
              have HF1 := HF0.upd (Upd.refl [] w2).drew
              have HU2 := Lib.hid hu2
              have HSS2 := Lib.hid (HSS.out (HS.out.upd hu2.drew) (HC.out.upd hu2.drew) (HM.out.upd hu2.drew) (by rw [bs_size]; omega))
              clear hxi HSS hu2
              cases hbe : behL p m x st with
              | error c =>
                have hcc := beh_code hbe
                rw [hbe] at HSS2
                have hc0 : c ≠ 0 := by omega
                unfold stepV at HSS2
                simp only at HSS2
                rw [errC_iface E c hc0] at HSS2
                have HBE := Lib.hid hbe
                clear hbe hcc hc0
                go_wp2_with fail
                go_region_held3 (fun w' => Nine w' w xb gs j bk ok cv mv m kc x st)
                  (first | exact hk0 | exact HF1 | exact HF0)
                  ((go_at_call 79; refine HSS2.out.mono ?_; rintro e w3 ⟨rfl, hu3⟩; have hk0 := HF1.upd hu3))
                have HD3 := Lib.hid (HD1.out.same ((Upd.refl [] w2).drew.trans hu3))
                have r0 : w3.cell? ⟨w.heap.size + 1 + 1, 0, none⟩ = some (.slice none 0 0) := by rw [cell_of HD3.out.hrb]; rfl
                have r1 : w3.cell? ⟨w.heap.size + 1 + 1, 1, none⟩ = some (.slice none 0 0) := by rw [cell_of HD3.out.hrb]; rfl
                have r2 : w3.cell? ⟨w.heap.size + 1 + 1, 2, none⟩ = some (.int .i64 0) := by rw [cell_of HD3.out.hrb]; rfl
                have y0 := froz_of HD3.out.hrb 0
                have y1 := froz_of HD3.out.hrb 1
                have y2 := froz_of HD3.out.hrb 2
                have HER : Hid (lookM p m = .error (c, j)) := by
                  refine HI.out.bad (by rw [HP.out]; exact hlt) ?_
                  unfold Lk.step
                  simp only
                  rw [HP.out, HXX.out, HST.out, HBE.out]
                clear hk0 hu3 HF0 HF1
                go_wp2_with fail
                have k1 := heap_setCell HD3.out.hrb 0 (.slice none 0 0)
                have k2 := heap_setCell k1 1 (.slice none 0 0)
                have k3 := heap_setCell k2 2 (.int .i64 0)
                have d0 := cell_of k3 0
                have d1 := cell_of k3 1
                have d2 := cell_of k3 2
                simp at d0 d1 d2
                have hu4 : Upd [w.heap.size + 1 + 1] w3 (((w3.setCell ⟨w.heap.size + 1 + 1, 0, none⟩ (.slice none 0 0)).setCell ⟨w.heap.size + 1 + 1, 1, none⟩ (.slice none 0 0)).setCell ⟨w.heap.size + 1 + 1, 2, none⟩ (.int .i64 0)) :=
                  (((Upd.refl _ w3).setCell (.inl (by simp)) _).setCell (.inl (by simp)) _).setCell (.inl (by simp)) _
                refine bodyPost_ret (v := .tuple #[.agg #[.slice none 0 0, .slice none 0 0, .int .i64 0], .int .i64 j, .iface 271 (.pointer (some (E (c - 101).toNat)))]) (by simp [results, Tryz.results51, go_sem, d0, d1, d2]) rfl ?_
                refine ⟨_, rfl, ?_, HD3.out.upd.trans' hu4 (fun i hi hl => by simp at hi; omega)⟩
                rw [HER.out]
                show _ = _
                rw [errC_iface E c (by have := beh_code HBE.out; omega)]
              | ok t =>
                have htl := behL_low hbe
                rw [hbe] at HSS2
                unfold stepV at HSS2
                simp only at HSS2
                have HBE := Lib.hid hbe
                clear hbe
                go_wp2_with fail
                go_region_held3 (fun w' => Nine w' w xb gs j bk ok cv mv m kc x st)
                  (first | exact hk0 | exact HF1 | exact HF0)
                  ((go_at_call 79; refine HSS2.out.mono ?_; rintro e w3 ⟨rfl, hu3⟩; have hk0 := HF1.upd hu3))
                have HD3 := Lib.hid (HD1.out.same ((Upd.refl [] w2).drew.trans hu3))
                have z1 := bs_size st
                have z2 := bs_size t
                have x2 : w3.cell? ⟨xb, 2, none⟩ = some (.int .i64 s.most) := by rw [cell_of HD3.out.hxb]; rfl
                have x0 : w3.cell? ⟨xb, 0, none⟩ = some (.slice (some ⟨gs, 0, none⟩) m.code.length m.code.length) := by rw [cell_of HD3.out.hxb]; rfl
                have s0 : w3.cell? ⟨gs, j, none⟩ = some (.string (bs st)) := hk0.2.2.2.2.1
                have f2 := froz_of HD3.out.hxb 2
                clear hk0 hu3 HF0 HF1
                go_wp2_with fail
                go_region
                rw [max_form]
                have HD4 : Hid (LookIn w (w3.setCell ⟨xb, 2, none⟩ (.int .i64 ((max s.most (max st.length t.length) : Nat) : Int))).drew cv mv (.slice (some ⟨bk, ok, none⟩) m.code.length kc) m m.code.length xb gs gb db (s.take j t)) := by
                  have h := (HD3.out.most_ (max s.most (max st.length t.length)) _ rfl).same (Upd.refl [] _).drew
                  have e : ({ s with done := s.done.set j true, most := max s.most (max st.length t.length) } : Lk) = s.take j t := by unfold Lk.take; rw [HST.out]
                  exact e ▸ h
                have HOK1 : Hid ((s.take j t).Ok m.code.length) := HI.out.ok.take j htl
                generalize (w3.setCell ⟨xb, 2, none⟩ (.int .i64 ((max s.most (max st.length t.length) : Nat) : Int))).drew = w4 at HD4 ⊢
                clear x2 x0 s0 f2 z1 z2 HD3 HD1 HU2 HSS2
                have m0 : w4.cell? ⟨w.heap.size + 1, 0, none⟩ = some (.string m.params) := by rw [cell_of HD4.out.hmb]; rfl
                have m1 : w4.cell? ⟨w.heap.size + 1, 1, none⟩ = some (.string m.locals) := by rw [cell_of HD4.out.hmb]; rfl
                have m2 : w4.cell? ⟨w.heap.size + 1, 2, none⟩ = some (.string m.ret) := by rw [cell_of HD4.out.hmb]; rfl
                have m3 : w4.cell? ⟨w.heap.size + 1, 3, none⟩ = some (.slice (some ⟨bk, ok, none⟩) m.code.length kc) := by rw [cell_of HD4.out.hmb]; rfl
                have HNX := Lib.hid (next_any m.params m.locals m.ret (.slice (some ⟨bk, ok, none⟩) m.code.length kc) m.code (j : Int) w4 (HCODE.out.upd HD4.out.upd) (by omega))
                go_wp2_with fail
                refine HNX.out.mono ?_
                rintro e w5 ⟨u, rfl, hO, hu5⟩
                obtain ⟨up, uc, rfl⟩ := hO.shape
                have HJN := Lib.hid (HJ.out j hlt)
                have HD5 := Lib.hid (HD4.out.same hu5)
                have l4 := lt_of_heap HD4.out.hgs
                have l5 := lt_of_heap HD4.out.hgb
                have HSTE : Hid (∀ r, (nextL m.code j).foldlM (fun s k => Lk.to m.code.length s k t) (s.take j t) = r → s.step p m = match r with
                    | .error e => .error (e, j)
                    | .ok s' => .ok s') := by
                  intro r hr
                  unfold Lk.take at hr
                  unfold Lk.step
                  simp only
                  rw [HP.out, HXX.out, HST.out, HBE.out]
                  rw [HST.out] at hr
                  simp only
                  rw [hr]
                  cases r <;> rfl
                have HOU := Lib.hid (fun q hq => hO.nth q hq)
                clear m0 m1 m2 m3 hu5 hO HNX HD4
                have hnl3 := nextL_len m.code (j : Int)
                generalize nextL m.code (j : Int) = nl at HJN HSTE HOU hnl3 ⊢
                go_wp2_with fail
                go_loopw [99] (fun v wr => ∃ (q : Nat) (sq : Lk), q ≤ nl.length ∧ v = .int .i64 q ∧ Hid ((nl.take q).foldlM (fun s k => Lk.to m.code.length s k t) (s.take j t) = .ok sq) ∧ Hid (LookIn w wr cv mv (.slice (some ⟨bk, ok, none⟩) m.code.length kc) m m.code.length xb gs gb db sq) ∧ Hid (Upd [gs, gb] w5 wr)) (fun v _ => nl.length - (intOf v).toNat)
                case atStart => exact ⟨0, _, by omega, rfl, rfl, HD5.out, Upd.refl _ _⟩
                case round =>
                  obtain ⟨q, sq, hq, rfl, HFQ, HLQ, HUQ⟩ := hrel
                  obtain ⟨w6, rfl⟩ : ∃ w6 : World, w6 = wr := ⟨_, rfl⟩
                  by_cases hql : q < nl.length
                  · obtain ⟨g, c, he, hg1, hg2, hcell⟩ := HOU.out q hql
                    injection he with he1 he2 he3
                    subst he1
                    clear he2 he3
                    have hx := HUQ.out.cell hcell (by simp; omega)
                    have hk0 : 0 ≤ nl.getD q 0 := HJN.out _ (by rw [List.getD_eq_getElem?_getD, List.getElem?_eq_getElem hql]; exact List.getElem_mem hql)
                    obtain ⟨kn, hkn⟩ := Int.eq_ofNat_of_zero_le hk0
                    rw [hkn] at hx
                    have HKN := Lib.hid hkn
                    clear hcell hk0 hkn
                    have m3 : w6.cell? ⟨w.heap.size + 1, 3, none⟩ = some (.slice (some ⟨bk, ok, none⟩) m.code.length kc) := by rw [cell_of HLQ.out.hmb]; rfl
                    have x0 : w6.cell? ⟨xb, 0, none⟩ = some (.slice (some ⟨gs, 0, none⟩) m.code.length m.code.length) := by rw [cell_of HLQ.out.hxb]; rfl
                    have x1 : w6.cell? ⟨xb, 1, none⟩ = some (.slice (some ⟨gb, 0, none⟩) m.code.length m.code.length) := by rw [cell_of HLQ.out.hxb]; rfl
                    by_cases hkl2 : m.code.length ≤ kn
                    · have dk : decide ((m.code.length : Int) ≤ (kn : Int)) = true := decide_eq_true (by omega)
                      have HER : Hid (lookM p m = .error (110, j)) := HI.out.bad (by rw [HP.out]; exact hlt) (HSTE.out _ (fold_bad HFQ.out hql (by
                        unfold Lk.to
                        rw [HKN.out, if_pos (by omega)])))
                      have g2 : w6.cell? ⟨6, 0, none⟩ = some (.iface 271 (.pointer (some (E 9)))) := (HS.out.upd HLQ.out.upd).g 9 (by omega)
                      have hgl : (6 : Nat) < w.heap.size := World.block_lt_of_cell? w _ (HS.out.g 9 (by omega))
                      have hgn : ¬ (w.heap.size + 1 + 1 = 6) := by omega
                      have hgn2 : ¬ (6 = w.heap.size + 1 + 1) := by omega
                      clear hgl
                      have r0 : w6.cell? ⟨w.heap.size + 1 + 1, 0, none⟩ = some (.slice none 0 0) := by rw [cell_of HLQ.out.hrb]; rfl
                      have r1 : w6.cell? ⟨w.heap.size + 1 + 1, 1, none⟩ = some (.slice none 0 0) := by rw [cell_of HLQ.out.hrb]; rfl
                      have r2 : w6.cell? ⟨w.heap.size + 1 + 1, 2, none⟩ = some (.int .i64 0) := by rw [cell_of HLQ.out.hrb]; rfl
                      have y0 := froz_of HLQ.out.hrb 0
                      have y1 := froz_of HLQ.out.hrb 1
                      have y2 := froz_of HLQ.out.hrb 2
                      go_wp2_with fail
                      go_region
                      go_wp2_with fail
                      have k1 := heap_setCell HLQ.out.hrb 0 (.slice none 0 0)
                      have k2 := heap_setCell k1 1 (.slice none 0 0)
                      have k3 := heap_setCell k2 2 (.int .i64 0)
                      have d0 := cell_of k3 0
                      have d1 := cell_of k3 1
                      have d2 := cell_of k3 2
                      simp at d0 d1 d2
                      have hu4 : Upd [w.heap.size + 1 + 1] w6 (((w6.setCell ⟨w.heap.size + 1 + 1, 0, none⟩ (.slice none 0 0)).setCell ⟨w.heap.size + 1 + 1, 1, none⟩ (.slice none 0 0)).setCell ⟨w.heap.size + 1 + 1, 2, none⟩ (.int .i64 0)) :=
                        (((Upd.refl _ w6).setCell (.inl (by simp)) _).setCell (.inl (by simp)) _).setCell (.inl (by simp)) _
                      refine bodyPost_ret (v := .tuple #[.agg #[.slice none 0 0, .slice none 0 0, .int .i64 0], .int .i64 j, .iface 271 (.pointer (some (E 9)))]) (by simp [results, Tryz.results51, go_sem, d0, d1, d2]) rfl ?_
                      refine ⟨_, rfl, ?_, HLQ.out.upd.trans' hu4.drew (fun i hi hl => by simp at hi; omega)⟩
                      rw [HER.out]
                      rfl
                    · have dk : decide ((m.code.length : Int) ≤ (kn : Int)) = false := decide_eq_false (by omega)
                      have hkl3 : kn < m.code.length := by omega
                      have HOKQ := Lib.hid (Lk.Ok.tos htl HOK1.out HFQ.out)
                      have sk : w6.cell? ⟨gb, kn, none⟩ = some (.bool (sq.seen.getD kn false)) := by rw [cell_of HLQ.out.hgb, bcells_get _ _ (by rw [HOKQ.out.seen]; exact hkl3)]
                      have tk : w6.cell? ⟨gs, kn, none⟩ = some (.string (bs (sq.stk.getD kn []))) := by rw [cell_of HLQ.out.hgs, scells_get _ _ (by rw [HOKQ.out.stk]; exact hkl3)]
                      cases hse : sq.seen.getD kn false with
                      | false =>
                        rw [hse] at sk
                        have HTO : Hid (Lk.to m.code.length sq (nl.getD q 0) t = .ok { sq with seen := sq.seen.set kn true, stk := sq.stk.set kn t }) := by
                          show _ = _
                          unfold Lk.to
                          rw [HKN.out, if_neg (by omega), Int.toNat_natCast, if_pos hse]
                        clear hse
                        have f0 := froz_of HLQ.out.hgb kn
                        have f1 := froz_of HLQ.out.hgs kn
                        have hne := HLQ.out.ne
                        have HLQ1 := Lib.hid ((HLQ.out.see kn).put kn t)
                        have HLQ2 := Lib.hid ((HLQ.out.put kn t).see kn)
                        go_wp2_with fail
                        go_region
                        all_goals
                          go_wp2_with fail
                          go_roundw
                          case rel =>
                            first
                              | exact ⟨q + 1, _, by omega, by go_num, fold_next HFQ.out hql HTO.out, HLQ1.out.same (Upd.refl [] _).drew, ((HUQ.out.setCell (.inl (by simp)) _).setCell (.inl (by simp)) _).drew⟩
                              | exact ⟨q + 1, _, by omega, by go_num, fold_next HFQ.out hql HTO.out, HLQ2.out.same (Upd.refl [] _).drew, ((HUQ.out.setCell (.inl (by simp)) _).setCell (.inl (by simp)) _).drew⟩
                          case measure => simp [intOf]; omega
                      | true =>
                        rw [hse] at sk
                        by_cases hme : sq.stk.getD kn [] = t
                        · have HTO : Hid (Lk.to m.code.length sq (nl.getD q 0) t = .ok sq) := by
                            show _ = _
                            unfold Lk.to
                            rw [HKN.out, if_neg (by omega), Int.toNat_natCast, if_neg (by rw [hse]; simp), if_neg (by simpa using hme)]
                          rw [hme] at tk
                          clear hse hme
                          go_wp2_with fail
                          go_roundw
                          case rel => exact ⟨q + 1, sq, by omega, by go_num, fold_next HFQ.out hql HTO.out, HLQ.out, HUQ.out⟩
                          case measure => simp [intOf]; omega
                        · have hne1 : ((bs (sq.stk.getD kn [])).toList == (bs t).toList) = false := by rw [bs_list, bs_list, beq_eq_false_iff_ne]; exact hme
                          have HME := Lib.hid hme
                          have HSE := Lib.hid hse
                          clear hse hme
                          generalize hav : bs (sq.stk.getD kn []) = av at tk hne1
                          clear hav
                          generalize htv : bs t = tv at hne1 ⊢
                          clear htv
                          have HER : Hid (lookM p m = .error (109, j)) := HI.out.bad (by rw [HP.out]; exact hlt) (HSTE.out _ (fold_bad HFQ.out hql (by
                            unfold Lk.to
                            rw [HKN.out, if_neg (by omega), Int.toNat_natCast, if_neg (by rw [HSE.out]; simp), if_pos HME.out])))
                          have g2 : w6.cell? ⟨7, 0, none⟩ = some (.iface 271 (.pointer (some (E 8)))) := (HS.out.upd HLQ.out.upd).g 8 (by omega)
                          have hgl : (7 : Nat) < w.heap.size := World.block_lt_of_cell? w _ (HS.out.g 8 (by omega))
                          have hgn : ¬ (w.heap.size + 1 + 1 = 7) := by omega
                          have hgn2 : ¬ (7 = w.heap.size + 1 + 1) := by omega
                          clear hgl
                          have r0 : w6.cell? ⟨w.heap.size + 1 + 1, 0, none⟩ = some (.slice none 0 0) := by rw [cell_of HLQ.out.hrb]; rfl
                          have r1 : w6.cell? ⟨w.heap.size + 1 + 1, 1, none⟩ = some (.slice none 0 0) := by rw [cell_of HLQ.out.hrb]; rfl
                          have r2 : w6.cell? ⟨w.heap.size + 1 + 1, 2, none⟩ = some (.int .i64 0) := by rw [cell_of HLQ.out.hrb]; rfl
                          have y0 := froz_of HLQ.out.hrb 0
                          have y1 := froz_of HLQ.out.hrb 1
                          have y2 := froz_of HLQ.out.hrb 2
                          go_wp2_with fail
                          go_region
                          go_wp2_with fail
                          have k1 := heap_setCell HLQ.out.hrb 0 (.slice none 0 0)
                          have k2 := heap_setCell k1 1 (.slice none 0 0)
                          have k3 := heap_setCell k2 2 (.int .i64 0)
                          have d0 := cell_of k3 0
                          have d1 := cell_of k3 1
                          have d2 := cell_of k3 2
                          simp at d0 d1 d2
                          have hu4 : Upd [w.heap.size + 1 + 1] w6 (((w6.setCell ⟨w.heap.size + 1 + 1, 0, none⟩ (.slice none 0 0)).setCell ⟨w.heap.size + 1 + 1, 1, none⟩ (.slice none 0 0)).setCell ⟨w.heap.size + 1 + 1, 2, none⟩ (.int .i64 0)) :=
                            (((Upd.refl _ w6).setCell (.inl (by simp)) _).setCell (.inl (by simp)) _).setCell (.inl (by simp)) _
                          refine bodyPost_ret (v := .tuple #[.agg #[.slice none 0 0, .slice none 0 0, .int .i64 0], .int .i64 j, .iface 271 (.pointer (some (E 8)))]) (by simp [results, Tryz.results51, go_sem, d0, d1, d2]) rfl ?_
                          refine ⟨_, rfl, ?_, HLQ.out.upd.trans' hu4.drew (fun i hi hl => by simp at hi; omega)⟩
                          rw [HER.out]
                          rfl
                  · obtain rfl : q = nl.length := by omega
                    have hcn := HFQ.out
                    rw [List.take_length] at hcn
                    have HST2 : Hid (s.step p m = .ok sq) := HSTE.out _ hcn
                    have HMID := Lib.hid (HI.out.next (by rw [HP.out]; exact hlt) HST2.out)
                    clear hcn
                    go_wp2_with fail
                    go_roundw
                    case rel => exact ⟨_, _, HMID.out, HLQ.out⟩
                    case measure =>
                      rw [openN_of HLQ.out.hdb, openN_of HL.out.hdb, HMID.out.ok.done, KD.out]
                      have e1 : sq.done.count true = i + 1 := HMID.out.cnt
                      have e2 : s.done.count true = i := HI.out.cnt
                      have e3 := HMID.out.le
                      omega
              -- F>
        · obtain rfl : j = m.code.length := by omega
          have HP : Hid (s.pick m.code.length = m.code.length) := pick_none HJJ.out
          have r0 : wo.cell? ⟨w.heap.size + 1 + 1, 0, none⟩ = some (.slice none 0 0) := by rw [cell_of HL.out.hrb]; rfl
          have r1 : wo.cell? ⟨w.heap.size + 1 + 1, 1, none⟩ = some (.slice none 0 0) := by rw [cell_of HL.out.hrb]; rfl
          have r2 : wo.cell? ⟨w.heap.size + 1 + 1, 2, none⟩ = some (.int .i64 0) := by rw [cell_of HL.out.hrb]; rfl
          have y0 := froz_of HL.out.hrb 0
          have y1 := froz_of HL.out.hrb 1
          have y2 := froz_of HL.out.hrb 2
          go_wp2_with fail
          have k1 := heap_setCell HL.out.hrb 0 (.slice (some ⟨gs, 0, none⟩) m.code.length m.code.length)
          have k2 := heap_setCell k1 1 (.slice (some ⟨gb, 0, none⟩) m.code.length m.code.length)
          have k3 := heap_setCell k2 2 (.int .i64 s.most)
          have d0 := cell_of k3 0
          have d1 := cell_of k3 1
          have d2 := cell_of k3 2
          simp at d0 d1 d2
          have hu3 : Upd [w.heap.size + 1 + 1] wo (((wo.setCell ⟨w.heap.size + 1 + 1, 0, none⟩ (.slice (some ⟨gs, 0, none⟩) m.code.length m.code.length)).setCell ⟨w.heap.size + 1 + 1, 1, none⟩ (.slice (some ⟨gb, 0, none⟩) m.code.length m.code.length)).setCell ⟨w.heap.size + 1 + 1, 2, none⟩ (.int .i64 s.most)) :=
            (((Upd.refl _ wo).setCell (.inl (by simp)) _).setCell (.inl (by simp)) _).setCell (.inl (by simp)) _
          have hge := HL.out.ge
          refine bodyPost_ret (v := .tuple #[.agg #[.slice (some ⟨gs, 0, none⟩) m.code.length m.code.length, .slice (some ⟨gb, 0, none⟩) m.code.length m.code.length, .int .i64 s.most], .int .i64 0, .nilIface]) (by simp [results, Tryz.results51, go_sem, d0, d1, d2]) rfl ?_
          refine ⟨_, rfl, ?_, HL.out.upd.trans' hu3 (fun i hi hl => by simp at hi; omega)⟩
          rw [HI.out.fin HP.out]
          have hgs := hu3.heap HL.out.hgs (by simp; omega)
          have hgb := hu3.heap HL.out.hgb (by simp; omega)
          exact ⟨gs, gb, rfl, ⟨hgs, hgb⟩, by omega, by omega, lt_of_heap hgs, lt_of_heap hgb⟩
end Go.Proofs.YtpmfbhoochogoaaGreatDoor
