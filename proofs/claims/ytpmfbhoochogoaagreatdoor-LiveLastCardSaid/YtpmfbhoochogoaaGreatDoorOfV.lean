/- verify.Of. -/
import Derived.Test.YtpmfbhoochogoaaGreatDoorInfoA
import Derived.Test.YtpmfbhoochogoaaGreatDoorCopyV
import Derived.Test.YtpmfbhoochogoaaGreatDoorLookW
import Derived.Test.YtpmfbhoochogoaaGreatDoorPMayW
namespace Go.Proofs.YtpmfbhoochogoaaGreatDoor
open Go.RowKit

/-- What Of answers. -/
def OfEnd (p : Prg) (E : Nat → Addr) (w : World) (v : Value) (w' : World) : Prop :=
  ((∃ c at_ ev, MayIs p c at_ ∧ c ≠ 0 ∧ v = .tuple #[.pointer none, ev] ∧ ErrV w' E ev c at_) ∨
   (p.Ok ∧ ∃ k c pc ev, k < p.ms.length ∧ (∀ j, j < k → ∃ s, lookM p (p.ms.getD j default) = .ok s) ∧ lookM p (p.ms.getD k default) = .error (c, pc) ∧ v = .tuple #[.pointer none, ev] ∧ ErrV w' E ev c [(k : Int), (pc : Int)]) ∨
   (p.Ok ∧ ∃ ib ss, ss.length = p.ms.length ∧ (∀ j, j < p.ms.length → lookM p (p.ms.getD j default) = .ok (ss.getD j default)) ∧ v = .tuple #[.pointer (some ⟨ib, 0, none⟩), .nilIface] ∧ InfoAt w' ib p ss 0 ∧ w.heap.size ≤ ib ∧ ib < w'.heap.size)) ∧ Upd [] w w'

abbrev Six (w : World) (ib mb : Nat) (cv mv : Value) (m : Meth) (ka : Option Addr) (kc : Nat) : Prop :=
  w.cell? ⟨ib, 0, none⟩ = some cv ∧ w.cell? ⟨ib, 1, none⟩ = some mv ∧ w.cell? ⟨mb, 0, none⟩ = some (.string m.params) ∧ w.cell? ⟨mb, 1, none⟩ = some (.string m.locals) ∧ w.cell? ⟨mb, 2, none⟩ = some (.string m.ret) ∧ w.cell? ⟨mb, 3, none⟩ = some (.slice ka m.code.length kc)
theorem Six.upd {w w' : World} {ib mb : Nat} {cv mv : Value} {m : Meth} {ka : Option Addr} {kc : Nat} (h : Six w ib mb cv mv m ka kc) (hu : Upd [] w w') : Six w' ib mb cv mv m ka kc :=
  ⟨hu.cell h.1 (by simp), hu.cell h.2.1 (by simp), hu.cell h.2.2.1 (by simp), hu.cell h.2.2.2.1 (by simp), hu.cell h.2.2.2.2.1 (by simp), hu.cell h.2.2.2.2.2 (by simp)⟩

theorem lookV.upd {E : Nat → Addr} {w w' : World} {B n : Nat} {v : Value} {r : Except (Int × Nat) Lk} (h : lookV E w B v n r) (hu : Upd [] w w') : lookV E w' B v n r := by
  cases r with
  | error e => exact h
  | ok s =>
    obtain ⟨gs, gb, h1, h2, h3, h4, h5, h6⟩ := h
    have := hu.size
    exact ⟨gs, gb, h1, h2.upd hu (by simp) (by simp), h3, h4, by omega, by omega⟩
/-- What look answers, part by part. -/
theorem lookV.parts {E : Nat → Addr} {w : World} {B n : Nat} {v : Value} {r : Except (Int × Nat) Lk} (h : lookV E w B v n r) : ∃ a0 n0 a1 n1 mo pc ev, v = .tuple #[.agg #[.slice a0 n0 n0, .slice a1 n1 n1, .int .i64 mo], .int .i64 pc, ev] := by
  cases r with
  | error e => exact ⟨_, _, _, _, _, _, _, h⟩
  | ok s => obtain ⟨gs, gb, h1, _⟩ := h; exact ⟨_, _, _, _, _, _, _, h1⟩
theorem box_after {w w' : World} (hu : Upd [] (w.drew.alloc (.cells #[.slice none 0 0, .slice none 0 0, .int .i64 0] 107)) w') :
    w'.cell? ⟨w.heap.size, 0, none⟩ = some (.slice none 0 0) ∧ w'.cell? ⟨w.heap.size, 1, none⟩ = some (.slice none 0 0) ∧ w'.cell? ⟨w.heap.size, 2, none⟩ = some (.int .i64 0) ∧ w'.frozen? ⟨w.heap.size, 0, none⟩ = false ∧ w'.frozen? ⟨w.heap.size, 1, none⟩ = false ∧ w'.frozen? ⟨w.heap.size, 2, none⟩ = false ∧ w'.heap[w.heap.size]? = some (.cells #[.slice none 0 0, .slice none 0 0, .int .i64 0] 107) := by
  have h := hu.heap (heap_alloc_new w.drew (.cells #[.slice none 0 0, .slice none 0 0, .int .i64 0] 107)) (by simp)
  have h : w'.heap[w.heap.size]? = some (.cells #[.slice none 0 0, .slice none 0 0, .int .i64 0] 107) := h
  exact ⟨by rw [cell_of h]; rfl, by rw [cell_of h]; rfl, by rw [cell_of h]; rfl, froz_of h 0, froz_of h 1, froz_of h 2, h⟩
def LookDone (E : Nat → Addr) (w wx : World) (B n : Nat) (r : Except (Int × Nat) Lk) (v8 v9 v10 : Value) : Prop :=
  ∃ xb c0 c1 c2, v8 = .pointer (some ⟨xb, 0, none⟩) ∧ wx.heap[xb]? = some (.cells #[c0, c1, c2] 107) ∧ lookV E wx B (.tuple #[.agg #[c0, c1, c2], v9, v10]) n r ∧ Upd [] w wx ∧ w.heap.size ≤ xb

theorem lookV.updT {E : Nat → Addr} {w w' : World} {B n : Nat} {v : Value} {r : Except (Int × Nat) Lk} {T : List Nat} (h : lookV E w B v n r) (hu : Upd T w w') (hT : ∀ k ∈ T, k < B) : lookV E w' B v n r := by
  cases r with
  | error e => exact h
  | ok s =>
    obtain ⟨gs, gb, h1, h2, h3, h4, h5, h6⟩ := h
    have := hu.size
    exact ⟨gs, gb, h1, h2.upd hu (fun hm => by have := hT _ hm; omega) (fun hm => by have := hT _ hm; omega), h3, h4, by omega, by omega⟩
theorem lookV.low {E : Nat → Addr} {w : World} {B B' n : Nat} {v : Value} {r : Except (Int × Nat) Lk} (h : lookV E w B v n r) (hB : B' ≤ B) : lookV E w B' v n r := by
  cases r with
  | error e => exact h
  | ok s =>
    obtain ⟨gs, gb, h1, h2, h3, h4, h5, h6⟩ := h
    exact ⟨gs, gb, h1, h2, by omega, by omega, h5, h6⟩
theorem look_late {E : Nat → Addr} {w w' : World} {n : Nat} {c0 c1 c2 pv ev : Value} {r : Except (Int × Nat) Lk} (h : lookV E w' w.drew.heap.size (.tuple #[.agg #[c0, c1, c2], pv, ev]) n r) (hu : Upd [] w.drew w') :
    LookDone E w (w'.alloc (.cells #[c0, c1, c2] 107)) w.heap.size n r (.pointer (some ⟨w'.heap.size, 0, none⟩)) pv ev :=
  ⟨_, c0, c1, c2, rfl, heap_alloc_new w' _, h.updT ((Upd.refl [] w').alloc _) (by simp), ((Upd.refl [] w).drew.trans hu).alloc _, hu.size⟩
theorem look_early {E : Nat → Addr} {w w' : World} {n : Nat} {c0 c1 c2 pv ev : Value} {r : Except (Int × Nat) Lk} (h : lookV E w' (w.drew.alloc (.cells #[.slice none 0 0, .slice none 0 0, .int .i64 0] 107)).heap.size (.tuple #[.agg #[c0, c1, c2], pv, ev]) n r) (hu : Upd [] (w.drew.alloc (.cells #[.slice none 0 0, .slice none 0 0, .int .i64 0] 107)) w') :
    LookDone E w (((w'.setCell ⟨w.heap.size, 0, none⟩ c0).setCell ⟨w.heap.size, 1, none⟩ c1).setCell ⟨w.heap.size, 2, none⟩ c2) w.heap.size n r (.pointer (some ⟨w.heap.size, 0, none⟩)) pv ev := by
  have hb := (box_after hu).2.2.2.2.2.2
  have hs : (w.drew.alloc (.cells #[.slice none 0 0, .slice none 0 0, .int .i64 0] 107)).heap.size = w.heap.size + 1 := by
    simp
  rw [hs] at h
  have k1 := heap_setCell hb 0 c0
  have k2 := heap_setCell k1 1 c1
  have k3 := heap_setCell k2 2 c2
  have hst : Upd [w.heap.size] w' (((w'.setCell ⟨w.heap.size, 0, none⟩ c0).setCell ⟨w.heap.size, 1, none⟩ c1).setCell ⟨w.heap.size, 2, none⟩ c2) := (((Upd.refl _ w').setCell (.inl (by simp)) _).setCell (.inl (by simp)) _).setCell (.inl (by simp)) _
  refine ⟨_, c0, c1, c2, rfl, ?_, (h.updT hst (fun k hk => by simp at hk; omega)).low (by omega), (((Upd.refl [] w).drew.alloc _).trans hu).trans' hst (fun k hk hl => by simp at hk; omega), Nat.le_refl _⟩
  rw [k3]
  simp
theorem look_code {p : Prg} {m : Meth} {c : Int} {pc : Nat} (h : lookM p m = .error (c, pc)) : 101 ≤ c ∧ c ≤ 114 := by
  have to_c : ∀ n s k t c, Lk.to n s k t = .error c → c = 109 ∨ c = 110 := by
    intro n s k t c h
    unfold Lk.to at h
    split at h
    · injection h with h; omega
    · split at h
      · cases h
      · split at h
        · injection h with h; omega
        · cases h
  have tos_c : ∀ (n : Nat) (t : List UInt8) (l : List Int) (s : Lk) (c : Int), l.foldlM (fun s k => Lk.to n s k t) s = .error c → c = 109 ∨ c = 110 := by
    intro n t l
    induction l with
    | nil => intro s c h; cases h
    | cons a l ih =>
      intro s c h
      rw [List.foldlM_cons] at h
      cases h1 : Lk.to n s a t with
      | error e =>
        rw [h1] at h
        injection h with h
        subst h
        exact to_c _ _ _ _ _ h1
      | ok s1 =>
        rw [h1] at h
        exact ih s1 c h
  have run_c : ∀ i e, Lk.run p m i = .error e → 101 ≤ e.1 ∧ e.1 ≤ 114 := by
    intro i
    induction i with
    | zero => intro e h; cases h
    | succ i ih =>
      intro e h
      have h2 : (match Lk.run p m i with | .error e => Except.error e | .ok s => if s.pick m.code.length = m.code.length then .ok s else s.step p m) = .error e := h
      cases h1 : Lk.run p m i with
      | error e' =>
        rw [h1] at h2
        injection h2 with h2
        subst h2
        exact ih _ h1
      | ok s =>
        rw [h1] at h2
        simp only at h2
        split at h2
        · cases h2
        · unfold Lk.step at h2
          simp only at h2
          split at h2
          · rename_i h3
            injection h2 with h2
            subst h2
            have := beh_code h3
            simp only
            omega
          · split at h2
            · rename_i h3
              injection h2 with h2
              subst h2
              have := tos_c _ _ _ _ _ h3
              simp only
              omega
            · cases h2
  exact run_c _ _ h

theorem Tryz.infoVMethod : (Tryz.prog.info? 107).map (fun i => (i.zero, i.size, i.bytes)) = some (some (.agg #[.slice none 0 0, .slice none 0 0, .int .i64 0]), 3, 56) := by kernel_rfl
theorem cell_news (w : World) (vs : List Value) (t : TypeId) : ∀ j u, vs[j]? = some u → (w.alloc (.cells vs.toArray t)).cell? ((⟨w.heap.size, 0, none⟩ : Addr).add j) = some u := by
  intro j u hj
  rw [Addr.add_lit, Nat.zero_add, cell_of (heap_alloc_new w _)]
  simpa using hj
theorem info_push {w w' : World} {B : Nat} {v v' : Value} {ms : List Meth} {ss : List Lk} {gg : List (Nat × Nat)} {m : Meth} {s : Lk} {gs gb : Nat} {o : Obj} {n : Nat} (h : OwnS w B v ms ss gg) (hs : LkAt w gs gb s) (hn : ms.length = n)
    (hown : w'.ownsRow B 107 3 v' (n + 1) (lcells ms ss gg ++ lcell m.code.length gs gb s)) (hgr : (w.drew.alloc o).grownBy w' v.ownBlock) :
    OwnS w' B v' (ms ++ [m]) (ss ++ [s]) (gg ++ [(gs, gb)]) ∧ Upd v.ownBlock.toList w w' ∧ (∀ k ∈ v.ownBlock.toList, B ≤ k ∧ k < w.heap.size) := by
  subst hn
  have hd := (Upd.refl [] w).drew
  refine ⟨(h.updT hd (by simp) (by simp)).push (hs.upd hd (by simp) (by simp)) hown hgr, ((Upd.refl _ w).drew.alloc o).grown hgr (fun q hq => Or.inl (Option.mem_toList.2 hq)), fun k hk => ?_⟩
  have := h.blk k (Option.mem_toList.1 hk)
  exact ⟨this.1, this.2.1⟩

set_option maxRecDepth 100000 in
set_option maxHeartbeats 4000000 in
theorem ofV_any (p : Prg) (cv mv : Value) (E : Nat → Addr) (w : World) (hS : SentAt w E) (hc : ClassAt w cv p.cs) (hm : MethsAt w mv p.ms) :
    Calls Tryz.prog 10 #[.agg #[cv, mv]] w fun e w' => ∃ v, e = .returned v ∧ OfEnd p E w v w' := by
  obtain ⟨ti, hti, htz0, htz1, htz2⟩ := info_parts Tryz.infoVMethod
  have HTI := Lib.hid hti
  have HTZ0 := Lib.hid htz0
  have HTZ1 := Lib.hid htz1
  have HTZ2 := Lib.hid htz2
  clear hti htz0 htz1 htz2
  have HS := Lib.hid hS
  have HSZ : Hid (∀ i, i < p.ms.length → (p.ms.getD i default).sz) := fun i hi => by obtain ⟨_, _, _, _, _, h⟩ := hm; obtain ⟨_, _, _, h, _⟩ := h i hi; exact h
  have hcs := hc
  have hms := hm
  obtain ⟨ca, cc, rfl, _⟩ := hcs
  obtain ⟨ma, mc, rfl, _⟩ := hms
  have hu0 := (Upd.refl [] w).alloc (.cells #[.slice ca p.cs.length cc, .slice ma p.ms.length mc] 36)
  have hb0 := heap_alloc_new w (.cells #[.slice ca p.cs.length cc, .slice ma p.ms.length mc] 36)
  have hc0 := hc.upd hu0
  have hm0 := hm.upd hu0
  have HU0 := Lib.hid hu0
  clear hc hm hu0 hS
  go_enter Tryz.func10, Tryz.ntmps10
  go_upto_region 1 with fail
  generalize w.alloc (.cells #[.slice ca p.cs.length cc, .slice ma p.ms.length mc] 36) = w0 at hb0 hc0 hm0 HU0 ⊢
  have p0 : w0.cell? ⟨w.heap.size, 0, none⟩ = some (.slice ca p.cs.length cc) := by rw [cell_of hb0]; rfl
  have p1 : w0.cell? ⟨w.heap.size, 1, none⟩ = some (.slice ma p.ms.length mc) := by rw [cell_of hb0]; rfl
  go_wp2_with fail
  refine (pmay_any p _ _ E w0 (HS.out.upd HU0.out) hc0 hm0).mono ?_
  rintro e w1 ⟨v, rfl, c, at_, hmay, herr, hu1⟩
  have hb1 := hu1.heap hb0 (by simp)
  have hc1 := hc0.upd hu1
  have hm1 := hm0.upd hu1
  have HU1 := Lib.hid (HU0.out.trans hu1)
  clear hb0 hc0 hm0 p0 p1 hu1 HU0
  by_cases hz : c = 0
  · subst hz
    have hv : v = .nilIface := by
      rcases herr.2 with ⟨_, h⟩ | ⟨_, _, _, _, h, _⟩
      · exact h
      · exact absurd rfl h
    subst hv
    have HOK := Lib.hid hmay.ok
    clear hmay herr
    have p0 : w1.cell? ⟨w.heap.size, 0, none⟩ = some (.slice ca p.cs.length cc) := by rw [cell_of hb1]; rfl
    have p1 : w1.cell? ⟨w.heap.size, 1, none⟩ = some (.slice ma p.ms.length mc) := by rw [cell_of hb1]; rfl
    go_wp2_with fail
    refine (copied_any p _ _ w1 hc1 hm1 (by have := HOK.out.many; omega) (by have := HOK.out.few; omega) (fun j hj => by have := HOK.out.code1 j hj; omega)).mono ?_
    rintro e w3 ⟨cv', mv', rfl, hc3, hm3, hu3⟩
    have HU3 := Lib.hid (HU1.out.trans hu3)
    have hms3 := hm3
    have hcs3 := hc3
    obtain ⟨ca', cc', rfl, _⟩ := hcs3
    obtain ⟨ma', mc', rfl, hml, hmm, hmx⟩ := hms3
    have HMX := Lib.hid hmx
    have HC3 := Lib.hid hc3
    have HM3 := Lib.hid hm3
    unfold maxLen at hmm
    have hmany := HOK.out.many
    clear hc1 hm1 hb1 p0 p1 hu3 HU1 hmx hc3 hm3
    have HB4 := Lib.hid (heap_alloc_new w3 (.cells #[.slice ca' p.cs.length cc', .slice ma' p.ms.length mc', .slice none 0 0, .int .i64 0] 104))
    have HU4 := Lib.hid ((Upd.refl [] w3).alloc (.cells #[.slice ca' p.cs.length cc', .slice ma' p.ms.length mc', .slice none 0 0, .int .i64 0] 104))
    have hsz4 : w3.heap.size < (w3.alloc (.cells #[.slice ca' p.cs.length cc', .slice ma' p.ms.length mc', .slice none 0 0, .int .i64 0] 104)).heap.size := by simp
    go_upto_region 5 with fail
    generalize w3.alloc (.cells #[.slice ca' p.cs.length cc', .slice ma' p.ms.length mc', .slice none 0 0, .int .i64 0] 104) = w4 at HB4 HU4 hsz4 ⊢
    have hib : w.heap.size ≤ w3.heap.size := HU3.out.size
    have hib3 : w3.heap.size ≤ w3.heap.size := Nat.le_refl _
    generalize hibe : w3.heap.size = ib at HB4 hib hsz4 ⊢
    have HIBE := Lib.hid hibe
    clear hib3 hibe
    have b1 : w4.cell? ⟨ib, 1, none⟩ = some (.slice ma' p.ms.length mc') := by rw [cell_of HB4.out]; rfl
    go_wp2_with fail
    go_loopw [26] (fun iv wr => ∃ (i : Nat) (lv : Value) (ss : List Lk) (gg : List (Nat × Nat)), i ≤ p.ms.length ∧ iv = .int .i64 i ∧ Hid (OwnS wr (ib + 1) lv (p.ms.take i) ss gg) ∧ Hid (wr.heap[ib]? = some (.cells #[.slice ca' p.cs.length cc', .slice ma' p.ms.length mc', lv, .int .i64 0] 104)) ∧
      Hid (Upd [] w3 wr) ∧ Hid (∀ j, j < i → lookM p (p.ms.getD j default) = .ok (ss.getD j default) ∧ ib < (gg.getD j default).1 ∧ ib < (gg.getD j default).2)) (fun iv _ => p.ms.length - (intOf iv).toNat)
    case atStart => exact ⟨0, _, [], [], by omega, rfl, OwnS.nil _ _, HB4.out, HU4.out, (fun j hj => by omega : ∀ j, j < 0 → _)⟩
    case round =>
      clear b1 hsz4
      obtain ⟨i, lv, ss, gg, hi, rfl, HOS, HIB, HU, HLK⟩ := hrel
      obtain ⟨wo, rfl⟩ : ∃ wo : World, wo = wr := ⟨_, rfl⟩
      by_cases hlt : i < p.ms.length
      · obtain ⟨b, o, rfl, hsz2, hm0, hm1, hm2, kv, hm3, hcode⟩ := HMX.out i hlt
        have hx0 := HU.out.cell hm0 (by simp)
        have hx1 := HU.out.cell hm1 (by simp)
        have hx2 := HU.out.cell hm2 (by simp)
        have hx3 := HU.out.cell hm3 (by simp)
        have hcode2 := hcode.upd HU.out
        have HTK : Hid (p.ms.take (i + 1) = p.ms.take i ++ [p.ms.getD i default]) := by
          show _ = _
          rw [List.take_succ_eq_append_getElem hlt, List.getD_eq_getElem?_getD, List.getElem?_eq_getElem hlt]; rfl
        have HLOOK := Lib.hid (fun w kv hS hc hm hcd => look_any p HOK.out i (.slice ca' p.cs.length cc') (.slice (some ⟨b, o, none⟩) p.ms.length mc') kv E w hS hc hm hlt hcd)
        have HC1 := Lib.hid (HOK.out.code1 i hlt)
        clear hm0 hm1 hm2 hm3 hcode hsz2
        generalize hmm2 : p.ms.getD i default = m at hx0 hx1 hx2 hx3 hcode2 HTK HLOOK HC1
        have HSS := Lib.hid hmm2
        clear hmm2
        obtain ⟨ka, kc, rfl, hkc⟩ := hcode2
        have hcode2 : CodeAt wo (.slice ka m.code.length kc) m.code := ⟨ka, kc, rfl, hkc⟩
        clear hkc
        have hau := (Upd.refl [] wo).alloc (.cells #[.string m.params, .string m.locals, .string m.ret, .slice ka m.code.length kc] 27)
        have hmb := heap_alloc_new wo (.cells #[.string m.params, .string m.locals, .string m.ret, .slice ka m.code.length kc] 27)
        have hib2 := hau.heap HIB.out (by simp)
        have HCD3 := Lib.hid (hcode2.upd hau)
        have HA3 := Lib.hid hau
        have HU5 := Lib.hid (HU.out.trans hau)
        go_upto_region 8 with fail
        generalize wo.alloc (.cells #[.string m.params, .string m.locals, .string m.ret, .slice ka m.code.length kc] 27) = w5 at hmb hib2 HCD3 HA3 HU5 ⊢
        generalize wo.heap.size = mb at hmb ⊢
        have hS0 : Six w5 ib mb (.slice ca' p.cs.length cc') (.slice (some ⟨b, o, none⟩) p.ms.length mc') m ka kc := ⟨by rw [cell_of hib2]; rfl, by rw [cell_of hib2]; rfl, by rw [cell_of hmb]; rfl, by rw [cell_of hmb]; rfl, by rw [cell_of hmb]; rfl, by rw [cell_of hmb]; rfl⟩
        have HLK2 := Lib.hid (fun w' (hu : Upd [] w5 w') => HLOOK.out w' (.slice ka m.code.length kc) (HS.out.upd ((HU3.out.trans HU5.out).trans hu)) (HC3.out.upd (HU5.out.trans hu)) (HM3.out.upd (HU5.out.trans hu)) (HCD3.out.upd hu))
        obtain ⟨h0, h1, h2, h3, h4, h5⟩ := hS0
        have k0 := fun o => ((Upd.refl [] w5).alloc o).cell h0 (by simp)
        have k1 := fun o => ((Upd.refl [] w5).alloc o).cell h1 (by simp)
        have k2 := fun o => ((Upd.refl [] w5).alloc o).cell h2 (by simp)
        have k3 := fun o => ((Upd.refl [] w5).alloc o).cell h3 (by simp)
        have k4 := fun o => ((Upd.refl [] w5).alloc o).cell h4 (by simp)
        have k5 := fun o => ((Upd.refl [] w5).alloc o).cell h5 (by simp)
        clear HLOOK hx0 hx1 hx2 hx3 hcode2 hau
        go_cut [8, 9, 10] from 32 to 41 (fun v8 v9 v10 wx => Hid (LookDone E w5 wx w5.heap.size m.code.length (lookM p m) v8 v9 v10))
        case first =>
          go_region_with ((go_at_call 51; refine (HLK2.out _ (by first | exact (Upd.refl [] w5).drew | exact ((Upd.refl [] w5).drew).alloc _)).mono ?_; rintro e w6 ⟨v, rfl, hv, hu6⟩; obtain ⟨a0, n0, a1, n1, mo, pcv, ev, rfl⟩ := hv.parts; first | (have hbx := box_after hu6; have t0 := hbx.1; have t1 := hbx.2.1; have t2 := hbx.2.2.1; have t3 := hbx.2.2.2.1; have t4 := hbx.2.2.2.2.1; have t5 := hbx.2.2.2.2.2.1; clear hbx) | skip))
          all_goals
            go_wp2_with fail
            go_meet
            refine Hid.mk ?_
            first
              | exact look_late hv hu6
              | exact look_early hv hu6
        case rest =>
          obtain ⟨xb, c0, c1, c2, rfl, hxb, hlv, hu6, hxg⟩ := hcut.out
          clear hcut k0 k1 k2 k3 k4 k5 h0 h1 h2 h3 h4 h5
          obtain ⟨w6, rfl⟩ : ∃ w6 : World, w6 = wc := ⟨_, rfl⟩
          have HU6 := Lib.hid (HU5.out.trans hu6)
          have hib6 := hu6.heap hib2 (by simp)
          cases hlm : lookM p m with
          | error e =>
            obtain ⟨c, pc⟩ := e
            rw [hlm] at hlv
            injection hlv with hlv
            injection hlv with hlv
            simp only [List.cons.injEq, and_true] at hlv
            obtain ⟨_, e9, e10⟩ := hlv
            subst e9
            have hc0 := look_code hlm
            rw [errC_form E c (by omega)] at e10
            subst e10
            have HEND := Lib.hid (show OfEnd p E w (.tuple #[.pointer none, .iface 110 (.pointer (some ⟨w6.heap.size, 0, none⟩))]) (w6.alloc (.cells #[.int .i64 i, .int .i64 pc, .iface 271 (.pointer (some (E (c - 101).toNat)))] 112)) from
              ⟨.inr (.inl ⟨HOK.out, i, c, pc, _, hlt, fun j hj => ⟨_, (HLK.out j hj).1⟩, by rw [HSS.out]; exact hlm, rfl, ErrV.where_ w6 E i pc c _ (errC_form E c (by omega)) (by omega)⟩), (HU3.out.trans HU6.out).alloc _⟩)
            clear hlm hc0 hxb hu6
            go_wp2_with fail
            go_ret2
            exact ⟨_, rfl, HEND.out⟩
          | ok s =>
            rw [hlm] at hlv
            obtain ⟨gs, gb, he, hlk, hg1, hg2, hg3, hg4⟩ := hlv
            injection he with he
            injection he with he
            simp only [List.cons.injEq, and_true] at he
            obtain ⟨e8, e9, e10⟩ := he
            subst e9
            subst e10
            injection e8 with e8
            injection e8 with e8
            simp only [List.cons.injEq, and_true] at e8
            obtain ⟨rfl, rfl, rfl⟩ := e8
            have HLM := Lib.hid hlm
            have x0 : w6.cell? ⟨xb, 0, none⟩ = some (.slice (some ⟨gs, 0, none⟩) m.code.length m.code.length) := by rw [cell_of hxb]; rfl
            have x1 : w6.cell? ⟨xb, 1, none⟩ = some (.slice (some ⟨gb, 0, none⟩) m.code.length m.code.length) := by rw [cell_of hxb]; rfl
            have x2 : w6.cell? ⟨xb, 2, none⟩ = some (.int .i64 s.most) := by rw [cell_of hxb]; rfl
            clear hlm
            have hkl3 : (p.ms.take i).length = i := by rw [List.length_take]; omega
            have HKL := Lib.hid hkl3
            obtain ⟨lp, lc, hlv2⟩ := HOS.out.shape
            rw [hkl3] at hlv2
            subst hlv2
            have HLKA := Lib.hid hlk
            have HOS6 := Lib.hid ((HOS.out.updT HA3.out (by simp) (by simp)).updT hu6 (by simp) (by simp))
            have HRW := Lib.hid (World.ownsRow.drew (HKL.out ▸ HOS6.out.row))
            have HKL1 : Hid ((p.ms.take i ++ [m]).length = i + 1) := by show _ = _; rw [List.length_append, hkl3]; rfl
            have l0 : w6.cell? ⟨ib, 2, none⟩ = some (.slice lp i lc) := by rw [cell_of hib6]; rfl
            have l1 := fun o => ((Upd.refl [] w6).alloc o).cell l0 (by simp)
            have z0 := fun o => ((Upd.refl [] w6).drew.alloc o).cell x0 (by simp)
            have z1 := fun o => ((Upd.refl [] w6).drew.alloc o).cell x1 (by simp)
            have z2 := fun o => ((Upd.refl [] w6).drew.alloc o).cell x2 (by simp)
            have hxm : ib < xb := by have := HOS.out; have := HA3.out.size; have := lt_of_heap HIB.out; omega
            have hsx : wo.heap.size ≤ xb := by have := HA3.out.size; omega
            have hbl : ∀ k, (Value.slice lp i lc).ownBlock = some k → k < wo.heap.size := fun k hk => (HOS.out.blk k hk).2.1
            have HBL := Lib.hid hbl
            have hib6l := lt_of_heap hib6
            clear hkl3 hlk hbl
            go_upto_region 11 with fail
            refine wp_region_noPanic ?_
            refine wp_region_held_drew (S := fun w' => w'.cell? ⟨xb, 0, none⟩ = some (.slice (some ⟨gs, 0, none⟩) m.code.length m.code.length) ∧ w'.cell? ⟨xb, 1, none⟩ = some (.slice (some ⟨gb, 0, none⟩) m.code.length m.code.length) ∧ w'.cell? ⟨xb, 2, none⟩ = some (.int .i64 s.most)) (by kernel_rfl) ?_ (fun hHeld => ?_)
            · first | exact ⟨x0, x1, x2⟩ | exact ⟨z0 _, z1 _, z2 _⟩ | exact ⟨q0, q1, q2⟩ | exact ⟨r0 _, r1 _, r2 _⟩
            refine wpAnyH_take (i := 0) (oi := ?_) (v := ?_) ?_ (by kernel_rfl) (by kernel_rfl) (by kernel_rfl) (fun _ _ _ h => h) (Or.inl ⟨?_, ?_⟩) hHeld ?_
            rotate_left 2
            · simp only [List.getElem?_toArray, List.getElem?_cons_zero]; rfl
            · rfl
            · intro _ hSw; (try dsimp only at hSw); go_simp <;> with_reducible rfl
            (try simp only [Act.put, List.setIfInBounds_toArray, List.set_cons_zero, List.set_cons_succ])
            refine wpAnyH_take (i := 1) (oi := ?_) (v := ?_) ?_ (by kernel_rfl) (by kernel_rfl) (by kernel_rfl) (fun _ _ _ h => h) (Or.inl ⟨?_, ?_⟩) hHeld ?_
            rotate_left 2
            · simp only [List.getElem?_toArray, List.getElem?_cons_zero, List.getElem?_cons_succ]; rfl
            · rfl
            · intro _ hSw; (try dsimp only at hSw); go_simp <;> with_reducible rfl
            (try simp only [Act.put, List.setIfInBounds_toArray, List.set_cons_zero, List.set_cons_succ])
            refine wpAnyH_take (i := 2) (oi := ?_) (v := ?_) ?_ (by kernel_rfl) (by kernel_rfl) (by kernel_rfl) (fun _ _ _ h => h) (Or.inl ⟨?_, ?_⟩) hHeld ?_
            rotate_left 2
            · simp only [List.getElem?_toArray, List.getElem?_cons_zero, List.getElem?_cons_succ]; rfl
            · rfl
            · intro _ hSw; (try dsimp only at hSw); go_simp <;> with_reducible rfl
            (try simp only [Act.put, List.setIfInBounds_toArray, List.set_cons_zero, List.set_cons_succ])
            refine wpAnyH_take (i := 3) (oi := ?_) (v := ?_) ?_ (by kernel_rfl) (by kernel_rfl) (by kernel_rfl) (fun _ _ _ h => h) (Or.inl ⟨?_, ?_⟩) hHeld ?_
            rotate_left 2
            · simp only [List.getElem?_toArray, List.getElem?_cons_zero, List.getElem?_cons_succ]; rfl
            · rfl
            · intro _ hSw; (try dsimp only at hSw); go_simp <;> with_reducible rfl
            (try simp only [Act.put, List.setIfInBounds_toArray, List.set_cons_zero, List.set_cons_succ])
            refine wpAnyH_take (i := 5) (oi := ?_) (v := ?_) ?_ (by kernel_rfl) (by kernel_rfl) (by kernel_rfl) (fun _ _ _ h => h) (Or.inl ⟨?_, ?_⟩) hHeld ?_
            rotate_left 2
            · simp only [List.getElem?_toArray, List.getElem?_cons_zero, List.getElem?_cons_succ]; rfl
            · rfl
            · intro _ hSw; (try dsimp only at hSw); go_simp <;> with_reducible rfl
            (try simp only [Act.put, List.setIfInBounds_toArray, List.set_cons_zero, List.set_cons_succ])
            refine wpAnyH_ready (rs := [4, 6]) (by kernel_rfl) (by simp) ?_
            refine (AllReadyH.cons (o := ?o4) ?ho4 (fun K hK => ?w4) (AllReadyH.cons (o := ?o6) ?ho6 (fun K hK => ?w6) AllReadyH.nil))
            case ho4 => (simp only [List.getElem?_toArray, List.getElem?_cons_zero, List.getElem?_cons_succ]; rfl)
            case ho6 => (simp only [List.getElem?_toArray, List.getElem?_cons_zero, List.getElem?_cons_succ]; rfl)
            case' w4 =>
              clear hHeld
              go_simp
              refine hK.out _ _ ?_ (fun hHeld => ?_)
              · first | exact ⟨x0, x1, x2⟩ | exact ⟨z0 _, z1 _, z2 _⟩ | exact ⟨q0, q1, q2⟩ | exact ⟨r0 _, r1 _, r2 _⟩
              clear hK K
              (try simp only [Act.put, List.setIfInBounds_toArray, List.set_cons_zero, List.set_cons_succ])
              refine wpAnyH_ready (rs := [6]) (by kernel_rfl) (by simp) ?_
              refine AllReadyH.cons (o := ?_) ?_ (fun K hK => ?_) AllReadyH.nil
              rotate_left 1
              · simp only [List.getElem?_toArray, List.getElem?_cons_zero, List.getElem?_cons_succ]; rfl
              clear hHeld
              go_simp
              refine hK.out _ _ ?_ (fun hHeld => ?_)
              · first | exact ⟨x0, x1, x2⟩ | exact ⟨z0 _, z1 _, z2 _⟩ | exact ⟨q0, q1, q2⟩ | exact ⟨r0 _, r1 _, r2 _⟩
              clear hK K
              (try simp only [Act.put, List.setIfInBounds_toArray, List.set_cons_zero, List.set_cons_succ])
            case' w6 =>
              clear hHeld
              go_simp
              refine hK.out _ _ ?_ (fun hHeld => ?_)
              · first | exact ⟨x0, x1, x2⟩ | exact ⟨z0 _, z1 _, z2 _⟩ | exact ⟨q0, q1, q2⟩ | exact ⟨r0 _, r1 _, r2 _⟩
              clear hK K
              (try simp only [Act.put, List.setIfInBounds_toArray, List.set_cons_zero, List.set_cons_succ])
              refine wpAnyH_ready (rs := [4]) (by kernel_rfl) (by simp) ?_
              refine AllReadyH.cons (o := ?_) ?_ (fun K hK => ?_) AllReadyH.nil
              rotate_left 1
              · simp only [List.getElem?_toArray, List.getElem?_cons_zero, List.getElem?_cons_succ]; rfl
              clear hHeld
              go_simp
              refine hK.out _ _ ?_ (fun hHeld => ?_)
              · first | exact ⟨x0, x1, x2⟩ | exact ⟨z0 _, z1 _, z2 _⟩ | exact ⟨q0, q1, q2⟩ | exact ⟨r0 _, r1 _, r2 _⟩
              clear hK K
              (try simp only [Act.put, List.setIfInBounds_toArray, List.set_cons_zero, List.set_cons_succ])
            all_goals
              refine wpAnyH_ready (rs := [7]) (by kernel_rfl) (by simp) ?_
              refine AllReadyH.cons (o := ?_) ?_ (fun K hK => ?_) AllReadyH.nil
              rotate_left 1
              · simp only [List.getElem?_toArray, List.getElem?_cons_zero, List.getElem?_cons_succ]; rfl
              clear hHeld
              (refine step_append_own_at rfl (.tmp 54) (.tmp 56) 97 rfl (ib + 1) 107 ti _ 3 56 Tryz.underlying97 HTI.out HTZ0.out HTZ1.out HTZ2.out rfl (by decide) _ _ _ rfl (HRW.out.alloc _) ⟨w6.heap.size, 0, none⟩ 1 1 (lcell m.code.length gs gb s) rfl rfl (cell_news _ _ _) (by simp [lcell, Value.oneCell']) (by unfold maxLen; omega) (by omega) (by simp; omega) ?_; intro v' w7 hown hgr hat; obtain ⟨HP7, HU7, HB7⟩ := info_push HOS6.out HLKA.out HKL.out hown hgr; have q0 := HU7.cell x0 (fun hm => by have := HBL.out _ (Option.mem_toList.1 hm); simp at this; omega); have q1 := HU7.cell x1 (fun hm => by have := HBL.out _ (Option.mem_toList.1 hm); simp at this; omega); have q2 := HU7.cell x2 (fun hm => by have := HBL.out _ (Option.mem_toList.1 hm); simp at this; omega); have hib7 := HU7.heap hib6 (fun hm => by have := HB7 _ hm; omega); have l7 : w7.cell? ⟨ib, 2, none⟩ = some (.slice lp i lc) := (by rw [cell_of hib7]; rfl); have f7 := froz_of hib7 2; have r0 := fun v => ((Upd.refl [ib] w7).setCell (p := ⟨ib, 2, none⟩) (Or.inl (by simp)) v).cell q0 (fun hm => by simp only [List.mem_singleton] at hm; omega); have r1 := fun v => ((Upd.refl [ib] w7).setCell (p := ⟨ib, 2, none⟩) (Or.inl (by simp)) v).cell q1 (fun hm => by simp only [List.mem_singleton] at hm; omega); have r2 := fun v => ((Upd.refl [ib] w7).setCell (p := ⟨ib, 2, none⟩) (Or.inl (by simp)) v).cell q2 (fun hm => by simp only [List.mem_singleton] at hm; omega); have HU73 : Hid (Upd [] w3 w7) := HU6.out.trans' HU7 (fun k hk hl => by have := HB7 k hk; have := HIBE.out; omega); have HP7' := Lib.hid HP7; obtain ⟨p7, c7, hv7⟩ := HP7.shape; rw [HKL1.out] at hv7; subst hv7; have HIB7 := Lib.hid hib7; clear HP7 HU7 HB7 hown hgr hat)
              refine hK.out _ _ ?_ (fun hHeld => ?_)
              · first | exact ⟨x0, x1, x2⟩ | exact ⟨z0 _, z1 _, z2 _⟩ | exact ⟨q0, q1, q2⟩ | exact ⟨r0 _, r1 _, r2 _⟩
              clear hK K
              (try simp only [Act.put, List.setIfInBounds_toArray, List.set_cons_zero, List.set_cons_succ])
              refine wpAnyH_take (i := 8) (oi := ?_) (v := ?_) ?_ (by kernel_rfl) (by kernel_rfl) (by kernel_rfl) (fun _ _ _ h => h) (Or.inl ⟨?_, ?_⟩) hHeld ?_
              rotate_left 2
              · simp only [List.getElem?_toArray, List.getElem?_cons_zero, List.getElem?_cons_succ]; rfl
              · rfl
              · intro _ hSw; (try dsimp only at hSw); go_simp <;> with_reducible rfl
              (try simp only [Act.put, List.setIfInBounds_toArray, List.set_cons_zero, List.set_cons_succ])
              refine wpAnyH_take (i := 9) (oi := ?_) (v := ?_) ?_ (by kernel_rfl) (by kernel_rfl) (by kernel_rfl) (fun _ _ _ h => h) (Or.inl ⟨?_, ?_⟩) hHeld ?_
              rotate_left 2
              · simp only [List.getElem?_toArray, List.getElem?_cons_zero, List.getElem?_cons_succ]; rfl
              · rfl
              · intro _ hSw; (try dsimp only at hSw); go_simp <;> with_reducible rfl
              (try simp only [Act.put, List.setIfInBounds_toArray, List.set_cons_zero, List.set_cons_succ])
              refine wpAnyH_ready (rs := [10]) (by kernel_rfl) (by simp) ?_
              refine AllReadyH.cons (o := ?_) ?_ (fun K hK => ?_) AllReadyH.nil
              rotate_left 1
              · simp only [List.getElem?_toArray, List.getElem?_cons_zero, List.getElem?_cons_succ]; rfl
              clear hHeld
              go_simp
              refine hK.out _ _ ?_ (fun hHeld => ?_)
              · first | exact ⟨x0, x1, x2⟩ | exact ⟨z0 _, z1 _, z2 _⟩ | exact ⟨q0, q1, q2⟩ | exact ⟨r0 _, r1 _, r2 _⟩
              clear hK K
              (try simp only [Act.put, List.setIfInBounds_toArray, List.set_cons_zero, List.set_cons_succ])
              refine wpAnyH_done (by kernel_rfl) ?_ _
              refine NoPanic.normal ?_
              go_wp2_with fail
              have hst8 : Upd [ib] w7 (w7.setCell ⟨ib, 2, none⟩ (.slice p7 (i + 1) c7)) := (Upd.refl _ _).setCell (.inl (by simp)) _
              have HU8 : Hid (Upd [] w3 _) := HU73.out.trans' hst8 (fun q hq hl => by simp at hq; have := HIBE.out; omega)
              have HIB8 : Hid ((w7.setCell ⟨ib, 2, none⟩ (.slice p7 (i + 1) c7)).heap[ib]? = some (.cells #[.slice ca' p.cs.length cc', .slice (some ⟨b, o, none⟩) p.ms.length mc', .slice p7 (i + 1) c7, .int .i64 0] 104)) := by
                show _ = _
                rw [heap_setCell HIB7.out]
                simp
              have HGG : Hid (∀ j, j < i + 1 → lookM p (p.ms.getD j default) = .ok ((ss ++ [s]).getD j default) ∧ ib < ((gg ++ [(gs, gb)]).getD j default).1 ∧ ib < ((gg ++ [(gs, gb)]).getD j default).2) := fun j hj => by
                have hl1 := HOS6.out.len
                have hl2 := HOS6.out.len2
                have hl3 := HKL.out
                have hws := HA3.out.size
                have hib9 := lt_of_heap HIB.out
                by_cases e : j < i
                · rw [getD_snoc_lt _ _ _ _ (by omega), getD_snoc_lt _ _ _ _ (by omega)]
                  exact HLK.out j e
                · have e1 : j = ss.length := by omega
                  have e2 : j = gg.length := by omega
                  have e3 : (ss ++ [s]).getD j default = s := by rw [e1]; exact getD_snoc_eq _ _ _
                  have e4 : (gg ++ [(gs, gb)]).getD j default = (gs, gb) := by rw [e2]; exact getD_snoc_eq _ _ _
                  have e5 : j = i := by omega
                  rw [e3, e4, e5, HSS.out]
                  exact ⟨HLM.out, by show ib < gs; omega, by show ib < gb; omega⟩
              have HP8 := Lib.hid (HTK.out ▸ HP7'.out.updT hst8 (fun q hq hm => by have := (HP7'.out.blk q hq).1; simp at hm; omega) (fun j hj => by
                have := HGG.out j (by have := HKL1.out; omega)
                exact ⟨fun hm => by rw [List.mem_singleton] at hm; omega, fun hm => by rw [List.mem_singleton] at hm; omega⟩))
              clear hst8 hHeld q0 q1 q2 r0 r1 r2 l7 f7
              go_roundw
              case rel => exact ⟨i + 1, _, _, _, by omega, by go_num, HP8.out, HIB8.out, HU8.out, HGG.out⟩
              case measure => simp [intOf]; omega
      · obtain rfl : i = p.ms.length := by omega
        have HTA : Hid (p.ms.take p.ms.length = p.ms) := List.take_length
        have HOS2 : Hid (OwnS wo (ib + 1) lv p.ms ss gg) := HTA.out ▸ HOS.out
        have HEND := Lib.hid (show OfEnd p E w (.tuple #[.pointer (some ⟨ib, 0, none⟩), .nilIface]) wo from by
          have hoff : Upd [ib] wo (offW wo ib) := ⟨rfl, rfl, rfl, by rw [offW_size]; exact Nat.le_refl _, fun k _ hk => offW_heap _ _ _ (by simpa using hk)⟩
          have hnew := offW_new HU.out (b := ib) (Nat.le_of_eq HIBE.out)
          refine ⟨.inr (.inr ⟨HOK.out, ib, ss, HOS2.out.len, fun j hj => (HLK.out j hj).1, rfl, ⟨_, _, _, HIB.out, HC3.out.upd hnew, HM3.out.upd hnew, ?_⟩, hib, lt_of_heap HIB.out⟩), HU3.out.trans HU.out⟩
          refine (HOS2.out.updT hoff (fun q hq hm => by have := (HOS2.out.blk q hq).1; simp at hm; omega) (fun i hi => ?_)).looks (fun i hi => ?_)
          · have := HLK.out i hi
            exact ⟨fun hm => by rw [List.mem_singleton] at hm; omega, fun hm => by rw [List.mem_singleton] at hm; omega⟩
          · have hg := look_good (by have := HOK.out.code1 i hi; omega) (HLK.out i hi).1
            exact ⟨hg.2.1.stk, hg.2.1.seen⟩)
        go_wp2_with fail
        go_ret2
        exact ⟨_, rfl, HEND.out⟩
  · have HEND := Lib.hid (show OfEnd p E w (.tuple #[.pointer none, v]) w1 from ⟨.inl ⟨c, at_, v, hmay, hz, rfl, herr⟩, HU1.out⟩)
    rcases herr.2 with ⟨_, h⟩ | ⟨bb, _, _, _, _, h, _⟩
    · rw [errC_form E c hz] at h
      subst h
      clear herr hmay hz hb1 hc1 hm1
      go_wp2_with fail
      go_ret2
      exact ⟨_, rfl, HEND.out⟩
    · subst h
      clear herr hmay hz hb1 hc1 hm1
      go_wp2_with fail
      go_ret2
      exact ⟨_, rfl, HEND.out⟩
end Go.Proofs.YtpmfbhoochogoaaGreatDoor
