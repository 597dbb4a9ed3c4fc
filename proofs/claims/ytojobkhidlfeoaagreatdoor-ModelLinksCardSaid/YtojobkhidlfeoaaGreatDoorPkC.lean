/- model's words(): the words of what can be reached. -/
import Derived.Test.YtojobkhidlfeoaaGreatDoorPkB
namespace Go.Proofs.YtojobkhidlfeoaaGreatDoor
open Go.RowKit

theorem Dfs.roots_of {p : Prg} {S : Mc} {R R' : Nat → Prop} {seen : List Bool} {work : List Nat} {n : Int} (h : Dfs p S R seen work n) (hR : ∀ i, R' i → R i) : Dfs p S R' seen work n :=
 ⟨h.len, h.nodup, h.wseen, h.sound, fun i hi => h.roots i (hR i hi), h.closed, h.sum⟩
theorem Dfs.wlen {p : Prg} {S : Mc} {R : Nat → Prop} {seen : List Bool} {work : List Nat} {n : Int} (h : Dfs p S R seen work n) : work.length ≤ S.objs.length :=
 len_leM _ _ h.nodup (fun i hi => (h.sound i (h.wseen i hi)).2)
/-- How many are not seen. -/
def cntF (l : List Bool) : Nat := (l.filter (fun b => !b)).length
theorem cntF_set : ∀ {l : List Bool} {k : Nat}, k < l.length → l.getD k false = false → cntF (l.set k true) + 1 = cntF l
 | [], _, h, _ => by simp at h
 | b :: l, 0, _, h => by
  have : b = false := h
  subst this
  simp [cntF]
 | b :: l, k + 1, h, h2 => by
  have ih := cntF_set (l := l) (k := k) (by simpa using h) h2
  unfold cntF at *
  cases b <;> simp_all
theorem meetV_mu : ∀ (l : List Vl) {seen : List Bool} {work : List Nat}, (∀ v ∈ l, v.Ok seen.length) → 2 * cntF (meetV l seen work).1 + (meetV l seen work).2.length ≤ 2 * cntF seen + work.length
 | [], _, _, _ => Nat.le_refl _
 | v :: l, seen, work, h => by
  rw [meetV_cons]
  split
  ·rename_i hc
   have hk : v.n.toNat < seen.length := by
    have := (h v (by simp)).1 hc.1
    omega
   have h1 := cntF_set hk hc.2.2
   have h2 := meetV_mu l (seen := seen.set v.n.toNat true) (work := work ++ [v.n.toNat]) (fun u hu => by
    rw [List.length_set]
    exact h u (by simp [hu]))
   rw [List.length_append] at h2
   simp only [List.length_cons, List.length_nil] at h2
   omega
  ·exact meetV_mu l (fun u hu => h u (by simp [hu]))
/-- What is left to be done, read from memory. -/
def mWk (w : World) (sb wx : Nat) : Nat :=
 2 * (match w.heap[sb]? with | some (Obj.cells c ..) => cntF (c.toList.map fun (v : Value) => match v with | Value.bool b => b | _ => true) | _ => 0) +
 (match w.heap[wx]? with | some (Obj.cells c ..) => (match c.toList.head? with | some (Value.slice _ n _) => n | _ => 0) | _ => 0)
theorem WkS.mu {w0 wr : World} {sx sb wx : Nat} {seen : List Bool} {work : List Nat} (h : WkS w0 wr sx sb wx seen work) : mWk wr sb wx = 2 * cntF seen + work.length := by
 obtain ⟨wv, h1, h2⟩ := h.wbx
 obtain ⟨wp, wc, rfl⟩ : ∃ wp wc, wv = .slice wp work.length wc := by
  rcases h2.form with ⟨h3, h4⟩ | ⟨g, c, h3, _⟩
  ·have h5 : work = [] := by simpa [intsN] using h4
   subst h5
   exact ⟨none, 0, h3⟩
  ·exact ⟨_, c, by rw [h3, intsN_len]⟩
 unfold mWk
 rw [h.row, h1]
 simp only [List.map_map]
 have e : ((fun v : Value => match v with | .bool b => b | _ => true) ∘ Value.bool) = id := rfl
 rw [e, List.map_id]
 rfl

/-- One is taken off the work. -/
theorem WkS.cut {w0 wr : World} {sx sb wx g L wc k : Nat} {seen : List Bool} {wk : List Nat} (h : WkS w0 wr sx sb wx seen (wk ++ [k])) (hv : wr.heap[wx]? = some (.cells #[.slice (some ⟨g, 0, none⟩) L wc] 26)) :
  WkS w0 (wr.setCell ⟨wx, 0, none⟩ (.slice (some ⟨g, 0, none⟩) wk.length wc)) sx sb wx seen wk ∧ KpT wr (wr.setCell ⟨wx, 0, none⟩ (.slice (some ⟨g, 0, none⟩) wk.length wc)) := by
 obtain ⟨wv, h1, h2⟩ := h.wbx
 have e : wv = .slice (some ⟨g, 0, none⟩) L wc := by
  rw [h1] at hv
  injection hv with hv
  injection hv with hv
  simpa using hv
 subst e
 have hl : L = (intsN (wk ++ [k])).length := by
  rcases h2.form with ⟨h3, _⟩ | ⟨_, _, h3, _⟩
  ·cases h3
  ·injection h3 with _ e2
 have hu : Upd [wx] wr (wr.setCell ⟨wx, 0, none⟩ (.slice (some ⟨g, 0, none⟩) wk.length wc)) := (Upd.refl _ wr).setCell (.inl (by simp)) _
 have e1 := blk_ne h.sbx h1 (by decide)
 have e2 := blk_ne h.row h1 (by decide)
 have ho : OwnI wr w0.heap.size 2 (.slice (some ⟨g, 0, none⟩) wk.length wc) (intsN wk) := by
  rw [hl] at h2
  exact h2.take (n := wk.length) (by rw [intsN_len, List.length_append]; omega) (by
   rw [intsN_snoc]
   have := intsN_len wk
   rw [← this, List.take_left])
 refine ⟨⟨hu.heap h.sbx (by simpa using e1), hu.heap h.row (by simpa using e2), ⟨.slice (some ⟨g, 0, none⟩) wk.length wc, ?_, ?_⟩, h.upd.trans' hu (fun i hi _ => by rw [List.mem_singleton] at hi; have := h.lo; omega), h.lo⟩, fun q c t hq _ h3 _ => hu.heap hq (by simpa using blk_ne hq h1 h3)⟩
 ·have h3 := heap_setCell h1 0 (.slice (some ⟨g, 0, none⟩) wk.length wc)
  simpa using h3
 ·refine row_upd ho hu (fun q hq hm => ?_)
  rw [List.mem_singleton] at hm
  subst hm
  exact own_heap_ne ho h1 (by decide) hq

set_option maxRecDepth 100000 in
set_option maxHeartbeats 8000000 in
theorem words_any {B : Nat} {w : World} {U R : List Nat} {mb ib : Nat} {p : Prg} {S : Mc} {X : MX} {ss : List Lk} (h : MAt B w U R mb ib p S X) (v : Vf p ss) (hS : S.Ok p ss) :
  Calls Tryz.prog 67 #[.pointer (some ⟨mb, 0, none⟩)] w fun e w' => e = .returned (.int .i64 (S.reachW p)) ∧ Upd [] w w' := by
 have HM := Lib.hid h
 have HV := Lib.hid v
 have HOK := Lib.hid hS
 have hb := h.box
 have hcls : ClassAt w X.cv p.cs := h.cls.reads (fun q u hc => (offs_cell U hc).2)
 have HCLS := Lib.hid hcls
 obtain ⟨ca, cc, hcv, _⟩ := hcls
 obtain ⟨ma, mc, hmv, _⟩ := h.mth
 have hroom : S.objs.length ≤ 300000 ∧ S.frs.length ≤ 300000 := by
  have := hS.room
  omega
 obtain ⟨fp, fc, hfv⟩ : ∃ fp fc, X.fv = .slice fp S.frs.length fc := by
  rcases h.frow.2 with ⟨h1, h2⟩ | ⟨g, c, cur, h1, _⟩
  ·exact ⟨none, 0, by rw [h1, h2]⟩
  ·exact ⟨_, c, h1⟩
 obtain ⟨op, oc, hov⟩ : ∃ op oc, X.ov = .slice op S.objs.length oc := by
  rcases h.orow.2 with ⟨h1, h2⟩ | ⟨g, c, cur, h1, _⟩
  ·exact ⟨none, 0, by rw [h1, h2]⟩
  ·exact ⟨_, c, h1⟩
 have m1 : w.cell? ⟨mb, 1, none⟩ = some (.slice ca p.cs.length cc) := by rw [cell_of hb, ← hcv]; rfl
 have m2 : w.cell? ⟨mb, 2, none⟩ = some (.slice ma p.ms.length mc) := by rw [cell_of hb, ← hmv]; rfl
 have m5 : w.cell? ⟨mb, 5, none⟩ = some (.slice fp S.frs.length fc) := by rw [cell_of hb, ← hfv]; rfl
 have m6 : w.cell? ⟨mb, 6, none⟩ = some (.slice op S.objs.length oc) := by rw [cell_of hb, ← hov]; rfl
 rw [hcv] at HCLS
 have HM1 := Lib.hid m1
 have HM2 := Lib.hid m2
 have HM6 := Lib.hid m6
 have HFV := Lib.hid hfv
 have HOV := Lib.hid hov
 have hmk := make_bools w S.objs.length (by omega)
 have hW0 : WkS w (((w.alloc (.cells (bcells (List.replicate S.objs.length false)) 4)).alloc (.cells #[.slice (some ⟨w.heap.size, 0, none⟩) S.objs.length S.objs.length] 135)).alloc (.cells #[.slice none 0 0] 26)) (w.heap.size + 1) w.heap.size (w.heap.size + 2) (List.replicate S.objs.length false) [] := by
  have z1 : (w.alloc (.cells (bcells (List.replicate S.objs.length false)) 4)).heap.size = w.heap.size + 1 := by simp
  have z2 : ((w.alloc (.cells (bcells (List.replicate S.objs.length false)) 4)).alloc (.cells #[.slice (some ⟨w.heap.size, 0, none⟩) S.objs.length S.objs.length] 135)).heap.size = w.heap.size + 2 := by simp
  have u1 := (Upd.refl [] w).alloc (.cells (bcells (List.replicate S.objs.length false)) 4)
  have u2 := (Upd.refl [] (w.alloc (.cells (bcells (List.replicate S.objs.length false)) 4))).alloc (.cells #[.slice (some ⟨w.heap.size, 0, none⟩) S.objs.length S.objs.length] 135)
  have u3 := (Upd.refl [] ((w.alloc (.cells (bcells (List.replicate S.objs.length false)) 4)).alloc (.cells #[.slice (some ⟨w.heap.size, 0, none⟩) S.objs.length S.objs.length] 135))).alloc (.cells #[.slice none 0 0] 26)
  have n1 := heap_alloc_new w (.cells (bcells (List.replicate S.objs.length false)) 4)
  have n2 := heap_alloc_new (w.alloc (.cells (bcells (List.replicate S.objs.length false)) 4)) (.cells #[.slice (some ⟨w.heap.size, 0, none⟩) S.objs.length S.objs.length] 135)
  have n3 := heap_alloc_new ((w.alloc (.cells (bcells (List.replicate S.objs.length false)) 4)).alloc (.cells #[.slice (some ⟨w.heap.size, 0, none⟩) S.objs.length S.objs.length] 135)) (.cells #[.slice none 0 0] 26)
  rw [z1] at n2
  rw [z2] at n3
  refine ⟨?_, (u2.trans u3).heap n1 (by simp), ⟨_, n3, World.ownsRow_nil _ _ _ _⟩, (u1.trans u2).trans u3, by omega⟩
  rw [List.length_replicate]
  exact u3.heap n2 (by simp)
 have HK0 := Lib.hid hW0
 clear h v hS hb hcv hmv hfv hov hW0 m1 m2
 go_enter Tryz.func67, Tryz.ntmps67
 go_upto_region 5 with fail
 generalize (((w.alloc (.cells (bcells (List.replicate S.objs.length false)) 4)).alloc (.cells #[.slice (some ⟨w.heap.size, 0, none⟩) S.objs.length S.objs.length] 135)).alloc (.cells #[.slice none 0 0] 26)) = w3 at HK0 ⊢
 clear hmk
 obtain ⟨sb, hsb⟩ : ∃ sb, w.heap.size = sb := ⟨_, rfl⟩
 rw [hsb] at HK0 ⊢
 have HSB := Lib.hid hsb
 clear hsb
 have m5 := HK0.out.upd.cell m5 (by simp)
 clear m6
 go_wp2_with fail
 go_loopw [22] (fun i wr => ∃ (k : Nat) (seen : List Bool) (work : List Nat), k ≤ S.frs.length ∧ i = .int .i64 k ∧ Hid (WkS w wr (sb + 1) sb (sb + 2) seen work) ∧ Hid (Dfs p S (fun i => ∃ f ∈ S.frs.reverse.take k, ∃ v ∈ f.loc ++ f.stk, v.nm i) seen work 0)) (fun i _ => S.frs.length - (intOf i).toNat)
 case atStart => exact ⟨0, _, _, by omega, rfl, HK0, Lib.hid ((Dfs.start p S).roots_of (fun i hi => by obtain ⟨f, hf, _⟩ := hi; simp at hf))⟩
 case round =>
  obtain ⟨k, seen, work, hk, rfl, HK, HD⟩ := hrel
  by_cases hlt : k < S.frs.length
  ·obtain ⟨g, c, lp, lc, lb, sp, sc, stb, hxf, ⟨f0, f1, f2, f3⟩, hvl, _, hvs, _⟩ := HM.out.fr hlt
   rw [HFV.out] at hxf
   injection hxf with e1 _ e3
   subst e1 e3
   have hfin : S.frs.reverse.getD k default ∈ S.frs := List.mem_reverse.1 (getD_mem (by simpa using hlt))
   obtain ⟨t, hfo⟩ := HOK.out.frok _ hfin
   have hfl := (HV.out.loc hfo).1
   have hfs := HOK.out.len HV.out _ hfin
   have HTK : Hid (S.frs.reverse.take (k + 1) = S.frs.reverse.take k ++ [S.frs.reverse.getD k default]) := take_sV (by simpa using hlt)
   have f0 := HK.out.upd.cell f0 (by simp)
   have f1 := HK.out.upd.cell f1 (by simp)
   have f2 := HK.out.upd.cell f2 (by simp)
   have f3 := HK.out.upd.cell f3 (by simp)
   generalize S.frs.reverse.getD k default = fr at f0 f1 f2 f3 hvl hvs hfin hfo hfl hfs HTK
   have HFO := Lib.hid hfo
   have HFI := Lib.hid hfin
   have HVL := Lib.hid hvl
   have HVS := Lib.hid hvs
   obtain ⟨fm, fpc, floc, fstk⟩ := fr
   simp only at f0 f1 f2 f3 hfl hfs
   have hu1 := (Upd.refl [] wr).alloc (.cells #[.int .i64 fm, .int .i64 fpc, .slice lp floc.length lc, .slice sp fstk.length sc] 63)
   have HB1 := Lib.hid (heap_alloc_new wr (.cells #[.int .i64 fm, .int .i64 fpc, .slice lp floc.length lc, .slice sp fstk.length sc] 63))
   have HK1 := Lib.hid (HK.out.keep hu1)
   have hlen0 : seen.length ≤ 1000000 ∧ work.length ≤ 300000 := by
    have := HD.out.len
    have := HD.out.wlen
    omega
   clear hu1 hvl hvs hfin hfo HK
   go_upto_region 8 with fail
   generalize wr.alloc (.cells #[.int .i64 fm, .int .i64 fpc, .slice lp floc.length lc, .slice sp fstk.length sc] 63) = w4 at HB1 HK1 ⊢
   obtain ⟨fb, hfb⟩ : ∃ fb, wr.heap.size = fb := ⟨_, rfl⟩
   rw [hfb] at HB1 ⊢
   clear hfb
   have g2 : w4.cell? ⟨fb, 2, none⟩ = some (.slice lp floc.length lc) := by rw [cell_of HB1.out]; rfl
   have HMT1 := Lib.hid (meet_any lp lc floc lb 0 w4 HK1.out HVL.out (fun u hu => by rw [HD.out.len]; exact HFO.out.lv u hu) (by omega) (by omega) (by omega))
   clear f0 f1 f2 f3
   go_wp2_with fail
   refine HMT1.out.mono ?_
   rintro e w5 ⟨rfl, hk5, hkp5⟩
   have hdx := meet_ok floc HD.out.dfx (fun u hu => HFO.out.lv u hu) (fun u hu j hj => .root HFI.out (by simp [hu]) hj)
   have HB5 := Lib.hid (hkp5 _ _ _ HB1.out (by decide) (by decide) (by decide))
   have HK5 := Lib.hid hk5
   have hm5 := (meetV_len floc seen work).1
   obtain ⟨sn, hsn⟩ : ∃ sn, (meetV floc seen work).1 = sn := ⟨_, rfl⟩
   obtain ⟨wk, hwk⟩ : ∃ wk, (meetV floc seen work).2 = wk := ⟨_, rfl⟩
   rw [hsn, hwk] at HK5 hdx
   rw [hsn] at hm5
   have HD5 := Lib.hid hdx.1
   have hlen5 : sn.length ≤ 1000000 ∧ wk.length ≤ 300000 := by
    have h1 := hdx.1.len
    have h2 := hdx.1.dfs.wlen
    omega
   clear hk5 hkp5 hdx hsn hwk HK1 HB1 HMT1 g2 hlen0
   have g3 : w5.cell? ⟨fb, 3, none⟩ = some (.slice sp fstk.length sc) := by rw [cell_of HB5.out]; rfl
   have HMT2 := Lib.hid (meet_any sp sc fstk stb 0 w5 HK5.out HVS.out (fun u hu => by rw [HD5.out.len]; exact HFO.out.sv u hu) (by omega) (by omega) (by omega))
   clear hm5
   go_wp2_with fail
   refine HMT2.out.mono ?_
   rintro e w6 ⟨rfl, hk6, hkp6⟩
   have hdx := meet_ok fstk HD5.out (fun u hu => HFO.out.sv u hu) (fun u hu j hj => .root HFI.out (by simp [hu]) hj)
   have HK6 := Lib.hid hk6
   have HD6 := Lib.hid (hdx.1.dfs.roots_of (R' := fun i => ∃ f ∈ S.frs.reverse.take (k + 1), ∃ v ∈ f.loc ++ f.stk, v.nm i) (fun i hi => by
    obtain ⟨f, hf, u, hu, hn⟩ := hi
    rw [HTK.out] at hf
    rcases List.mem_append.1 hf with hf | hf
    ·exact .inl (.inl ⟨f, hf, u, hu, hn⟩)
    ·rw [List.mem_singleton] at hf
     subst hf
     rcases List.mem_append.1 hu with hu | hu
     ·exact .inl (.inr ⟨u, hu, hn⟩)
     ·exact .inr ⟨u, hu, hn⟩))
   clear hdx hk6 hkp6 HK5 HB5 HMT2 g3
   go_wp2_with fail
   go_roundw
   case rel => exact ⟨k + 1, _, _, by omega, by go_num, HK6, HD6⟩
   case measure => simp [intOf]; omega
  ·obtain rfl : k = S.frs.length := by omega
   have HD0 := Lib.hid (HD.out.roots_of (R' := fun i => ∃ f ∈ S.frs, ∃ v ∈ f.loc ++ f.stk, v.nm i) (fun i hi => by
    obtain ⟨f, hf, hx⟩ := hi
    refine ⟨f, ?_, hx⟩
    rw [← List.length_reverse, List.take_length]
    exact List.mem_reverse.2 hf))
   clear HD
   have HKZ := HK
   clear HK
   go_wp2_with fail
   clear m5
   go_loopw [5] (fun i wr => ∃ (n : Int) (seen : List Bool) (work : List Nat), i = .int .i64 n ∧ Hid (WkS w wr (sb + 1) sb (sb + 2) seen work) ∧ Hid (Dfs p S (fun i => ∃ f ∈ S.frs, ∃ v ∈ f.loc ++ f.stk, v.nm i) seen work n)) (fun _ wr => mWk wr sb (sb + 2))
   case atStart => exact ⟨0, _, _, rfl, HKZ, HD0⟩
   case round =>
    clear HKZ HD0
    obtain ⟨n, seen, work, rfl, HK, HD⟩ := hrel
    obtain ⟨wv, hwb, hown⟩ := HK.out.wbx
    by_cases hw : work = []
    ·subst hw
     obtain ⟨wp, wc, rfl⟩ : ∃ wp wc, wv = .slice wp 0 wc := by
      rcases hown.form with ⟨h3, h4⟩ | ⟨g, c, h3, _⟩
      ·exact ⟨none, 0, h3⟩
      ·exact ⟨_, c, h3⟩
     have x0 : wr.cell? ⟨sb + 2, 0, none⟩ = some (.slice wp 0 wc) := by rw [cell_of hwb]; rfl
     have HE := Lib.hid (HD.out.all (fun f hf u hu i hn => ⟨f, hf, u, hu, hn⟩))
     clear hwb hown
     go_wp2_with fail
     go_ret
     exact ⟨by rw [← HE.out]; rfl, HK.out.upd⟩
    ·obtain ⟨wk, k, rfl⟩ : ∃ wk k, work = wk ++ [k] := ⟨work.dropLast, work.getLast hw, (List.dropLast_concat_getLast hw).symm⟩
     obtain ⟨L, hL⟩ : ∃ L, wk.length + 1 = L := ⟨_, rfl⟩
     obtain ⟨g, wc, rfl, hLc, hgc⟩ : ∃ g wc, wv = .slice (some ⟨g, 0, none⟩) L wc ∧ L ≤ wc ∧ wr.cell? ⟨g, wk.length, none⟩ = some (.int .i64 k) := by
      rcases hown.form with ⟨_, h4⟩ | ⟨g, c, h3, h7, _, _, h5⟩
      ·simp [intsN] at h4
      ·refine ⟨g, c, by rw [h3, intsN_len, List.length_append, ← hL]; rfl, by rw [intsN_len, List.length_append] at h7; rw [← hL]; exact h7, ?_⟩
       have h6 := h5 wk.length (by rw [intsN_len, List.length_append]; simp)
       rw [h6, intsN_snoc]
       simp [List.getD_eq_getElem?_getD, intsN]
     have hsnd := HD.out.sound k (HD.out.wseen k (by simp))
     obtain ⟨ob, oc2, vb, vc, hxo, _, _, o0, o1, _, hov⟩ := HM.out.obj hsnd.2
     rw [HOV.out] at hxo
     injection hxo with e1 _ e3
     subst e1 e3
     obtain ⟨vlb, hvl, _⟩ := hov.read
     have hok := HOK.out.objs _ (getD_mem hsnd.2)
     have how := ow_ok hok
     have HTAKE := Lib.hid HD.out.take
     have hbd : n ≤ 52 * S.objs.length ∧ 0 ≤ n := by
      rw [HD.out.sum]
      exact ⟨sumS_le (fun o ho => ⟨(ow_ok (HOK.out.objs o ho)).2, by rw [(ow_ok (HOK.out.objs o ho)).1]; omega⟩), sumS_nn⟩
     obtain ⟨oj, hoj⟩ : ∃ oj, S.objs.getD k default = oj := ⟨_, rfl⟩
     rw [hoj] at o0 o1 hvl hok how HTAKE
     have HOJ := Lib.hid hoj
     obtain ⟨ocl, ovs⟩ := oj
     simp only at o0 o1 hvl
     obtain ⟨oL, hoL⟩ : ∃ oL, ovs.length = oL := ⟨_, rfl⟩
     rw [hoL] at o1 hvl
     have o0 := HK.out.upd.cell o0 (by simp)
     have o1 := HK.out.upd.cell o1 (by simp)
     have m6 := HK.out.upd.cell HM6.out (by simp)
     have x0 : wr.cell? ⟨sb + 2, 0, none⟩ = some (.slice (some ⟨g, 0, none⟩) L wc) := by rw [cell_of hwb]; rfl
     have HWB := Lib.hid hwb
     have HSND := Lib.hid hsnd
     have HVL := Lib.hid hvl
     have HOKO := Lib.hid hok
     have HOW := Lib.hid how
     have HLL := Lib.hid hL
     have HOL := Lib.hid hoL
     have HBD := Lib.hid hbd
     have q1 : decide ((L : Int) > 0) = true := decide_eq_true (by omega)
     have q2 : decide (0 < L) = true := decide_eq_true (by omega)
     have s1 : IntKind.i64.wrap ((L : Int) - 1) = (wk.length : Int) := by
      rw [IntWalk.i64_in _ (by have := HD.out.wlen; rw [List.length_append] at this; simp only [List.length_cons, List.length_nil] at this; omega)]
      omega
     have i1 : (0 : Int) ≤ (wk.length : Int) := by omega
     have i2 : (wk.length : Int) < (L : Int) := by omega
     have i3 : (0 : Int) ≤ (k : Int) := by omega
     have i4 : (k : Int) < (S.objs.length : Int) := by have := hsnd.2; omega
     have i5 : wk.length < L := by omega
     have i6 : k < S.objs.length := hsnd.2
     have i7 : wk.length ≤ L := by omega
     have i8 : (wk.length : Int) ≤ (wc : Int) := by omega
     have i9 : wk.length ≤ wc := by omega
     clear hwb hown hw hsnd hvl hok how hL hoL hbd hov hoj
     go_upto_region 12 with fail
     have k0 : wr.drew.cell? ⟨mb, 6, none⟩ = some (.slice (some ⟨ob, 0, none⟩) S.objs.length oc) ∧ wr.drew.cell? ⟨sb + 2, 0, none⟩ = some (.slice (some ⟨g, 0, none⟩) L wc) ∧ wr.drew.cell? ⟨g, wk.length, none⟩ = some (.int .i64 k) ∧ wr.drew.cell? ⟨ob, k * 2, none⟩ = some (.int .i64 ocl) ∧ wr.drew.cell? ⟨ob, k * 2 + 1, none⟩ = some (.slice vb oL vc) := ⟨m6, x0, hgc, o0, o1⟩
     have k1 : ∀ O, (wr.drew.alloc O).cell? ⟨mb, 6, none⟩ = some (.slice (some ⟨ob, 0, none⟩) S.objs.length oc) ∧ (wr.drew.alloc O).cell? ⟨sb + 2, 0, none⟩ = some (.slice (some ⟨g, 0, none⟩) L wc) ∧ (wr.drew.alloc O).cell? ⟨g, wk.length, none⟩ = some (.int .i64 k) ∧ (wr.drew.alloc O).cell? ⟨ob, k * 2, none⟩ = some (.int .i64 ocl) ∧ (wr.drew.alloc O).cell? ⟨ob, k * 2 + 1, none⟩ = some (.slice vb oL vc) := fun O => by
      have hu := (Upd.refl [] wr.drew).alloc O
      exact ⟨hu.cell m6 (by simp), hu.cell x0 (by simp), hu.cell hgc (by simp), hu.cell o0 (by simp), hu.cell o1 (by simp)⟩
     go_region_held3 (fun w' => w'.cell? ⟨mb, 6, none⟩ = some (.slice (some ⟨ob, 0, none⟩) S.objs.length oc) ∧ w'.cell? ⟨sb + 2, 0, none⟩ = some (.slice (some ⟨g, 0, none⟩) L wc) ∧ w'.cell? ⟨g, wk.length, none⟩ = some (.int .i64 k) ∧ w'.cell? ⟨ob, k * 2, none⟩ = some (.int .i64 ocl) ∧ w'.cell? ⟨ob, k * 2 + 1, none⟩ = some (.slice vb oL vc)) ((first | (with_reducible exact k0) | exact k1 _)) (fail)
     have hu5 : Upd [] wr (wr.alloc (.cells #[.int .i64 ocl, .slice vb oL vc] 106)).drew := ((Upd.refl [] wr).alloc _).drew
     have HB5 : Hid ((wr.alloc (.cells #[.int .i64 ocl, .slice vb oL vc] 106)).drew.heap[wr.heap.size]? = some (.cells #[.int .i64 ocl, .slice vb oL vc] 106)) := heap_alloc_new wr (.cells #[.int .i64 ocl, .slice vb oL vc] 106)
     have HK5 := Lib.hid (HK.out.keep hu5)
     have HWB5 := Lib.hid (hu5.heap HWB.out (by simp))
     clear k0 k1 hu5 m6 x0 hgc o0 o1
     go_upto_region 13 with fail
     generalize (wr.alloc (.cells #[.int .i64 ocl, .slice vb oL vc] 106)).drew = w5 at HB5 HK5 HWB5 ⊢
     obtain ⟨xb, hxb⟩ : ∃ xb, wr.heap.size = xb := ⟨_, rfl⟩
     rw [hxb] at HB5 ⊢
     clear hxb
     have x0 : w5.cell? ⟨sb + 2, 0, none⟩ = some (.slice (some ⟨g, 0, none⟩) L wc) := by rw [cell_of HWB5.out]; rfl
     have z0 := froz_of HWB5.out 0
     have hcut := HK5.out.cut HWB5.out
     have HK6 := Lib.hid hcut.1
     have HB6 := Lib.hid (hcut.2 _ _ _ HB5.out (by decide) (by decide) (by decide))
     clear hcut HB5 HK5 HWB5
     go_upto_region 14 with fail
     generalize w5.setCell ⟨sb + 2, 0, none⟩ (.slice (some ⟨g, 0, none⟩) wk.length wc) = w6 at HK6 HB6 ⊢
     clear x0 z0 q1 q2 s1 i1 i2 i3 i4 i5 i6 i7 i8 i9
     have m1 := HK6.out.upd.cell HM1.out (by simp)
     have m2 := HK6.out.upd.cell HM2.out (by simp)
     have b0 : w6.cell? ⟨xb, 0, none⟩ = some (.int .i64 ocl) := by rw [cell_of HB6.out]; rfl
     have b1 : w6.cell? ⟨xb, 1, none⟩ = some (.slice vb oL vc) := by rw [cell_of HB6.out]; rfl
     obtain ⟨ow, how⟩ : ∃ ow, p.ow ⟨ocl, ovs⟩ = ow := ⟨_, rfl⟩
     have hob := HOW.out
     rw [how] at hob
     have HT6 := HTAKE.out
     rw [how] at HT6
     have HT6 := Lib.hid HT6
     have HPW : Hid (Calls Tryz.prog 94 #[.agg #[.slice ca p.cs.length cc, .slice ma p.ms.length mc], .int .i64 ocl, .int .i64 (oL : Int)] w6.drew fun e w' => e = .returned (.int .i64 ow) ∧ Upd [] w6.drew w') := by
      have h1 := pwords_any p.cs _ ma p.ms.length mc ocl oL w6.drew (HCLS.out.upd (HK6.out.upd.drew)) (fun j => by
       by_cases hj : j < p.cs.length
       ·have h2 := HV.out.ok.cls j hj
        unfold clsCode at h2
        split at h2
        ·cases h2
        ·omega
       ·rw [List.getD_eq_getElem?_getD, List.getElem?_eq_none (by omega)]
        decide) (by rw [← HOL.out]; have := HOKO.out.len; simp only at this; omega)
      have h3 : 2 + (if 0 ≤ ocl ∧ ocl < p.cs.length then ((p.cs.getD ocl.toNat ByteArray.empty).size : Int) else (oL : Int)) = ow := by
       rw [← how, ← HOL.out]
       rfl
      rw [h3] at h1
      exact h1
     have s2 : IntKind.i64.wrap (n + ow) = n + ow := IntWalk.i64_in _ (by have := HBD.out; have hz := hroom; omega)
     clear how hob
     have k0 : w6.drew.cell? ⟨mb, 1, none⟩ = some (.slice ca p.cs.length cc) ∧ w6.drew.cell? ⟨mb, 2, none⟩ = some (.slice ma p.ms.length mc) ∧ w6.drew.cell? ⟨xb, 0, none⟩ = some (.int .i64 ocl) ∧ w6.drew.cell? ⟨xb, 1, none⟩ = some (.slice vb oL vc) := ⟨m1, m2, b0, b1⟩
     go_region_held3 (fun w' => w'.cell? ⟨mb, 1, none⟩ = some (.slice ca p.cs.length cc) ∧ w'.cell? ⟨mb, 2, none⟩ = some (.slice ma p.ms.length mc) ∧ w'.cell? ⟨xb, 0, none⟩ = some (.int .i64 ocl) ∧ w'.cell? ⟨xb, 1, none⟩ = some (.slice vb oL vc)) ((first | (with_reducible exact k0) | exact k1)) ((go_at_call 94; refine HPW.out.mono ?_; rintro e w7 ⟨rfl, hu7⟩; have k1 : w7.cell? ⟨mb, 1, none⟩ = some (.slice ca p.cs.length cc) ∧ w7.cell? ⟨mb, 2, none⟩ = some (.slice ma p.ms.length mc) ∧ w7.cell? ⟨xb, 0, none⟩ = some (.int .i64 ocl) ∧ w7.cell? ⟨xb, 1, none⟩ = some (.slice vb oL vc) := ⟨hu7.cell m1 (by simp), hu7.cell m2 (by simp), hu7.cell b0 (by simp), hu7.cell b1 (by simp)⟩; have HU7 : Hid (Upd [] w6 w7) := (Upd.refl [] w6).drew.trans hu7; clear hu7))
     have HK7 := Lib.hid (HK6.out.keep HU7.out)
     have b1 := k1.2.2.2
     have hvlen := HOL.out
     have hl7 : seen.length ≤ 1000000 ∧ wk.length ≤ 1000000 := by
      have h1 := HD.out.len
      have h2 := HD.out.wlen
      rw [List.length_append] at h2
      omega
     subst hvlen
     have hvl50 : ovs.length ≤ 1000 := by have := HOKO.out.len; simp only at this; omega
     have HMT := Lib.hid (meet_any vb vc ovs vlb 0 w7 HK7.out HVL.out (fun u hu => by rw [HD.out.len]; exact HOKO.out.vals u hu) hvl50 hl7.2 hl7.1)
     clear k0 k1 m1 m2 b0 HPW s2
     go_wp2_with fail
     refine HMT.out.mono ?_
     rintro e w8 ⟨rfl, hk8, _⟩
     have HK8 := Lib.hid hk8
     have hdx := meet_ok ovs HT6.out (fun u hu => HOKO.out.vals u hu) (fun u hu j hj => .step HSND.out.1 (v := u) (by rw [HOJ.out]; exact hu) hj)
     have HD8 : Hid (Dfs p S (fun i => ∃ f ∈ S.frs, ∃ v ∈ f.loc ++ f.stk, v.nm i) (meetV ovs seen wk).1 (meetV ovs seen wk).2 (n + ow)) :=
      (hdx.1.done (fun u hu j hj => hdx.1.roots j (.inr ⟨u, by rw [HOJ.out] at hu; exact hu, hj⟩))).roots_of (fun i hi => .inl hi)
     have hmu := meetV_mu ovs (seen := seen) (work := wk) (fun u hu => by rw [HD.out.len]; exact HOKO.out.vals u hu)
     clear hk8 hdx b1
     go_wp2_with fail
     go_roundw
     case rel => exact ⟨n + ow, _, _, rfl, HK8, HD8⟩
     case measure =>
      rw [HK8.out.mu, HK.out.mu, List.length_append]
      simp only [List.length_cons, List.length_nil]
      omega
end Go.Proofs.YtojobkhidlfeoaaGreatDoor
