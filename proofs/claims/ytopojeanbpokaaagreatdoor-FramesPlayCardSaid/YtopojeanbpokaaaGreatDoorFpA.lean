/- A stack of frames: Take. A stack of frames: Take where there is nothing; Lay where there is no room. A stack of frames: what is refused (Jump, Lay, Take, New). A stack of frames: Push that is refused by its method or its arguments. A stack of frames: a local is set (in memory). A stack of frames: SetLocal. -/
import Derived.Test.YtopojeanbpokaaaGreatDoorFrA
import Derived.Test.YtopojeanbpokaaaGreatDoorFrI
/-! A stack of frames: Take. -/
/-! A stack of frames: Take. -/
namespace Go.Proofs.YtopojeanbpokaaaGreatDoor
open Go.RowKit

theorem FrsAt.turn3 {w : World} {B g c : Nat} {fs : List Fr} {vs : List FrV} {f : Fr} {v : FrV} (sv' : Value) (st' : List Slt) (h : FrsAt w B (.slice (some ⟨g, 0, none⟩) (fs.length + 1) c) (fs ++ [f]) (vs ++ [v])) (hob : sv'.ownBlock = v.sv.ownBlock) (hst : OwnSl w B sv' st') :
    FrsAt (w.setCell ⟨g, fs.length * 4 + 3, none⟩ sv') B (.slice (some ⟨g, 0, none⟩) (fs.length + 1) c) (fs ++ [{ f with stk := st' }]) (vs ++ [⟨v.lv, sv'⟩]) := by
  have hl : vs.length = fs.length := by have := h.len; simpa using this
  have hlen : (fs ++ [f]).length = fs.length + 1 := by simp
  have hu : Upd [g] w (w.setCell ⟨g, fs.length * 4 + 3, none⟩ sv') := (Upd.refl [g] w).setCell (.inl (by simp)) _
  have hrow := h.row
  rw [hlen] at hrow
  have vlast : (vs ++ [v]).getD fs.length default = v := by rw [← hl]; exact getD_snoc_eq _ _ _
  have vlast2 : (vs ++ [(⟨v.lv, sv'⟩ : FrV)]).getD fs.length default = ⟨v.lv, sv'⟩ := by rw [← hl]; exact getD_snoc_eq _ _ _
  have vi : ∀ {i}, i < fs.length → (vs ++ [(⟨v.lv, sv'⟩ : FrV)]).getD i default = (vs ++ [v]).getD i default := fun hi => by rw [getD_snoc_lt _ _ _ _ (by omega), getD_snoc_lt _ _ _ _ (by omega)]
  have fi : ∀ {i}, i < fs.length → (fs ++ [({ f with stk := st' } : Fr)]).getD i default = (fs ++ [f]).getD i default := fun hi => by rw [getD_snoc_lt _ _ _ _ hi, getD_snoc_lt _ _ _ _ hi]
  have flast : (fs ++ [f]).getD fs.length default = f := getD_snoc_eq _ _ _
  have flast2 : (fs ++ [({ f with stk := st' } : Fr)]).getD fs.length default = { f with stk := st' } := getD_snoc_eq _ _ _
  have own : ∀ i, i < fs.length + 1 → ((vs ++ [(⟨v.lv, sv'⟩ : FrV)]).getD i default).lv.ownBlock = ((vs ++ [v]).getD i default).lv.ownBlock ∧ ((vs ++ [(⟨v.lv, sv'⟩ : FrV)]).getD i default).sv.ownBlock = ((vs ++ [v]).getD i default).sv.ownBlock := fun i hi => by
    by_cases e : i < fs.length
    · rw [vi e]; exact ⟨rfl, rfl⟩
    · have e2 : i = fs.length := by omega
      subst e2
      rw [vlast, vlast2]
      exact ⟨rfl, hob⟩
  have hng : ∀ i, i < fs.length + 1 → ¬ ((vs ++ [v]).getD i default).has g := fun i hi => h.own_ne (by rw [hlen]; exact hi)
  have keep : ∀ {u : Value} {xs : List Slt}, OwnSl w B u xs → u.ownBlock ≠ some g → OwnSl (w.setCell ⟨g, fs.length * 4 + 3, none⟩ sv') B u xs := fun ho hne => ho.upd hu (fun k hk hm => hne (by rw [List.mem_singleton] at hm; rw [← hm]; exact hk))
  refine ⟨?_, by simp [hl], fun i hi => ?_, fun i hi => ?_, fun i hi b hb => ?_, fun i j hi hj hij b hb hb2 => ?_⟩
  · have hlen2 : (fs ++ [({ f with stk := st' } : Fr)]).length = fs.length + 1 := by simp
    rw [hlen2]
    exact frow_set hl hrow 3 (by omega) _ rfl
  · have hi : i < fs.length + 1 := by simpa using hi
    have h1 := h.loc i (by rw [hlen]; exact hi)
    have h2 := hng i hi
    by_cases e : i < fs.length
    · rw [vi e, fi e]
      exact keep h1 (fun hb => h2 (.inl hb))
    · have e2 : i = fs.length := by omega
      subst e2
      rw [vlast] at h1 h2
      rw [flast] at h1
      rw [vlast2, flast2]
      exact keep h1 (fun hb => h2 (.inl hb))
  · have hi : i < fs.length + 1 := by simpa using hi
    have h1 := h.stk i (by rw [hlen]; exact hi)
    have h2 := hng i hi
    by_cases e : i < fs.length
    · rw [vi e, fi e]
      exact keep h1 (fun hb => h2 (.inr hb))
    · have e2 : i = fs.length := by omega
      subst e2
      rw [vlast] at h2
      rw [vlast2, flast2]
      exact keep hst (fun hb => h2 (.inr (hob.symm.trans hb)))
  · have hi : i < fs.length + 1 := by simpa using hi
    rw [(own i hi).1] at hb
    rw [(own i hi).2]
    exact h.two i (by rw [hlen]; exact hi) b hb
  · have hi : i < fs.length + 1 := by simpa using hi
    have hj : j < fs.length + 1 := by simpa using hj
    have k1 : ((vs ++ [v]).getD i default).has b := by
      rcases hb with hb | hb
      · exact .inl (by rw [← (own i hi).1]; exact hb)
      · exact .inr (by rw [← (own i hi).2]; exact hb)
    have k2 : ((vs ++ [v]).getD j default).has b := by
      rcases hb2 with hb | hb
      · exact .inl (by rw [← (own j hj).1]; exact hb)
      · exact .inr (by rw [← (own j hj).2]; exact hb)
    exact h.apart i j (by rw [hlen]; exact hi) (by rw [hlen]; exact hj) hij b k1 k2
theorem has_turn {vs : List FrV} {v : FrV} {sv' : Value} (hob : sv'.ownBlock = v.sv.ownBlock) (i b : Nat) (h : ((vs ++ [(⟨v.lv, sv'⟩ : FrV)]).getD i default).has b) : ((vs ++ [v]).getD i default).has b := by
  by_cases e : i < vs.length
  · rw [getD_snoc_lt _ _ _ _ e] at h ⊢
    exact h
  · by_cases e2 : i = vs.length
    · subst e2
      rw [getD_snoc_eq] at h ⊢
      rcases h with h | h
      · exact .inl h
      · exact .inr (hob.symm.trans h)
    · rw [List.getD_eq_getElem?_getD, List.getElem?_eq_none (by simp; omega)] at h ⊢
      exact h
theorem FrsAt.updN {w w' : World} {B r : Nat} {lv : Value} {fs : List Fr} {vs : List FrV} (h : FrsAt w B lv fs vs) (hu : Upd [r] w w') (h1 : lv.ownBlock ≠ some r) (h2 : ∀ i, i < fs.length → ¬ (vs.getD i default).has r) : FrsAt w' B lv fs vs := by
  have off : ∀ {v : Value}, v.ownBlock ≠ some r → ∀ k, v.ownBlock = some k → k ∉ [r] := fun hne k hk hm => hne (by rw [List.mem_singleton] at hm; rw [← hm]; exact hk)
  exact ⟨row_upd h.row hu (off h1), h.len, fun i hi => (h.loc i hi).upd hu (off (fun hb => h2 i hi (.inl hb))), fun i hi => (h.stk i hi).upd hu (off (fun hb => h2 i hi (.inr hb))), h.two, h.apart⟩
theorem FrsAt.has_lt {w : World} {B : Nat} {lv : Value} {fs : List Fr} {vs : List FrV} (h : FrsAt w B lv fs vs) {i b : Nat} (hi : i < fs.length) (hb : (vs.getD i default).has b) : b < w.heap.size := by
  rcases hb with hb | hb
  · exact (World.ownsRow.lt (h.loc i hi) b hb).2
  · exact (World.ownsRow.lt (h.stk i hi) b hb).2
/-- A row's last slot is let go. -/
theorem OwnSl.cut {w : World} {B q sc : Nat} {ys : List Slt} {x : Slt} (h : OwnSl w B (.slice (some ⟨q, 0, none⟩) (ys.length + 1) sc) (ys ++ [x])) : OwnSl w B (.slice (some ⟨q, 0, none⟩) ys.length sc) ys := by
  unfold OwnSl at h ⊢
  obtain ⟨h0, h1⟩ := h
  refine ⟨by rw [slcells_len], ?_⟩
  rcases h1 with ⟨h1, _⟩ | ⟨g1, c1, cur, h1, h2, h3, h4, h5, h6, h7⟩
  · cases h1
  · injection h1 with e1 _ e3
    injection e1 with e1
    injection e1 with e1
    subst e1 e3
    have e1 : (ys ++ [x]).length * 2 = ys.length * 2 + 2 := by simp; omega
    refine .inr ⟨q, sc, cur, rfl, h2, h3, by simp at h4; omega, h5, h6, ?_⟩
    have h8 := congrArg (List.take (ys.length * 2)) h7
    rw [List.take_take, Nat.min_eq_left (by rw [e1]; omega), slcells_app, List.take_append_of_le_length (by rw [slcells_len]; exact Nat.le_refl _)] at h8
    rw [h8, List.take_of_length_le (by rw [slcells_len]; exact Nat.le_refl _)]
theorem cut_sl (w : World) (g len c q : Nat) (h : q ≤ c) : (Instr.slice 45 (.slice (some ⟨g, 0, none⟩) len c) none (some (.int .i64 (q : Int))) none).run Tryz.prog w = .ok (.slice (some ⟨g, 0, none⟩) q c) w := by
  have hsz : (sizeOf 44).run Tryz.prog w = .ok 2 w := by kernel_rfl
  have he : Tryz.prog.elem 45 = 44 := by kernel_rfl
  rw [run_slice_h w 45 _ _ _ (by rw [he]; exact Tryz.underlying45) .i64 (q : Int) (by omega) (by omega), he, hsz]
  simp [Result.andThen, sliced, Addr.add]
theorem OwnSl.last {w : World} {B : Nat} {v : Value} {ys : List Slt} {x : Slt} (h : OwnSl w B v (ys ++ [x])) : ∃ q sc, v = .slice (some ⟨q, 0, none⟩) (ys.length + 1) sc ∧ ys.length + 1 ≤ sc ∧ w.cell? ⟨q, ys.length * 2, none⟩ = some (.bool x.ref) ∧ w.cell? ⟨q, ys.length * 2 + 1, none⟩ = some (.int .i64 x.n) := by
  have hlen : (ys ++ [x]).length = ys.length + 1 := by simp
  obtain ⟨b, hr, _⟩ := h.read
  obtain ⟨h1, h2⟩ := hr.2 ys.length (by rw [hlen]; omega)
  have hx : (ys ++ [x]).getD ys.length default = x := getD_snoc_eq _ _ _
  rw [hx] at h1 h2
  rcases h.2 with ⟨_, e⟩ | ⟨g, c, cur, e, _, _, e4, _⟩
  · rw [hlen] at e
    omega
  · rw [hlen] at e e4
    rcases hr.1 with ⟨e5, _⟩ | ⟨c2, e5⟩
    · rw [e] at e5; cases e5
    · rw [e] at e5
      injection e5 with e6 _ e7
      injection e6 with e6
      injection e6 with e6
      subst e6
      exact ⟨g, c, e, by omega, h1, h2⟩

set_option maxRecDepth 100000 in
set_option maxHeartbeats 4000000 in
theorem stake_own (W0 w : World) (sb ib : Nat) (p : Prg) (ss : List Lk) (n0 n : Int) (cv mv : Value) (limit words : Int) (lv : Value) (fs : List Fr) (vs : List FrV) (f : Fr) (v : FrV) (ys : List Slt) (x : Slt) (h : StkAt W0 w sb ib p ss n0 n cv mv limit words lv (fs ++ [f]) (vs ++ [v])) (hf : f.stk = ys ++ [x]) (hy : ys.length ≤ 100000) :
    Calls Tryz.prog 17 #[.pointer (some ⟨sb, 0, none⟩)] w fun e w' => e = .returned (.tuple #[.agg #[.bool x.ref, .int .i64 x.n], .bool true]) ∧ ∃ sv' g, StkAt W0 w' sb ib p ss n0 n cv mv limit words lv (fs ++ [{ f with stk := ys }]) (vs ++ [⟨v.lv, sv'⟩]) ∧ (sv'.ownBlock = v.sv.ownBlock ∧ lv.ownBlock = some g) ∧ sb < g ∧ Upd [g] w w' := by
  have hl : vs.length = fs.length := by have := h.frs.len; simpa using this
  have HNO : Hid ((∀ i, i < (fs ++ [f]).length → ¬ ((vs ++ [v]).getD i default).has w.heap.size) ∧ ∀ b, lv.ownBlock = some b → b < w.heap.size) :=
    ⟨fun i hi hb => by have := h.frs.has_lt hi hb; omega, fun b hb => (World.ownsRow.lt h.frs.row b hb).2⟩
  have hu0 := (Upd.refl [] w).alloc (.cells #[.bool false, .int .i64 0] 44)
  have hb0 := heap_alloc_new w (.cells #[.bool false, .int .i64 0] 44)
  have h2 := h.same hu0
  have HTP := Lib.hid (stop_any W0 _ sb ib p ss n0 n cv mv limit words lv _ _ h2)
  obtain ⟨g, c, rfl, ht, hg, g0, g1, g2, g3⟩ := top_at h2.frs hl
  rw [ht] at HTP
  have H2 := Lib.hid h2
  have hos : OwnSl (w.alloc (.cells #[.bool false, .int .i64 0] 44)) (sb + 1) v.sv (ys ++ [x]) := by
    have h3 := h2.frs.stk fs.length (by simp)
    rw [getD_snoc_eq] at h3
    rw [show (vs ++ [v]).getD fs.length default = v by rw [← hl]; exact getD_snoc_eq _ _ _] at h3
    rwa [hf] at h3
  obtain ⟨lvv, svv⟩ := v
  simp only at g2 g3 hos
  obtain ⟨q, sc, rfl, hsc, x0, x1⟩ := hos.last
  have HU0 := Lib.hid hu0
  have HB0 := Lib.hid hb0
  have HOS := Lib.hid hos
  have HFS := Lib.hid hf
  have hcut : ∀ W, (Instr.slice 45 (.slice (some ⟨q, 0, none⟩) (ys.length + 1) sc) none (some (.int .i64 (ys.length : Int))) none).run Tryz.prog W = .ok (.slice (some ⟨q, 0, none⟩) ys.length sc) W := fun W => cut_sl W q _ sc ys.length (by omega)
  clear h h2 hu0 hb0 ht hl g0 g1 g2 hos hf
  have e0 : (((ys.length + 1 : Nat) : Int) == 0) = false := by rw [beq_eq_false_iff_ne]; omega
  have e1 : (((ys.length : Int) + 1) == 0) = false := by rw [beq_eq_false_iff_ne]; omega
  have s1 : IntKind.i64.wrap (((ys.length + 1 : Nat) : Int) - 1) = (ys.length : Int) := by rw [IntWalk.i64_in _ (by omega)]; omega
  have s2 : IntKind.i64.wrap (((ys.length : Int) + 1) - 1) = (ys.length : Int) := by rw [IntWalk.i64_in _ (by omega)]; omega
  go_enter Tryz.func17, Tryz.ntmps17
  go_upto_region 1 with fail
  generalize w.alloc (.cells #[.bool false, .int .i64 0] 44) = w0 at HU0 HB0 HTP HOS H2 g3 x0 x1 ⊢
  go_wp2_with fail
  refine HTP.out.mono ?_
  rintro e w1 ⟨rfl, hu⟩
  have hb1 := hu.heap HB0.out (by simp)
  have H1 := Lib.hid (H2.out.same hu)
  have HOS1 := Lib.hid (HOS.out.upd hu (by simp))
  have g3 := hu.cell g3 (by simp)
  have x0 := hu.cell x0 (by simp)
  have x1 := hu.cell x1 (by simp)
  have HU := Lib.hid (HU0.out.trans hu)
  have HB1 := Lib.hid hb1
  clear hu HTP H2 HOS HB0 HU0 hb1
  have s3 : IntKind.i64.wrap (ys.length : Int) = (ys.length : Int) := IntWalk.i64_in _ (by omega)
  have hdr := (Upd.refl [] w1).drew
  have hal := hdr.alloc (.cells #[.bool false, .int .i64 0] 44)
  have hla := (Upd.refl [] w1).alloc (.cells #[.bool false, .int .i64 0] 44)
  have hld := hla.drew
  have dg3 := hdr.cell g3 (by simp)
  have dx0 := hdr.cell x0 (by simp)
  have dx1 := hdr.cell x1 (by simp)
  have ag3 := hal.cell g3 (by simp)
  have ax0 := hal.cell x0 (by simp)
  have ax1 := hal.cell x1 (by simp)
  have bg3 := hla.cell g3 (by simp)
  have bx0 := hla.cell x0 (by simp)
  have bx1 := hla.cell x1 (by simp)
  have lg3 := hld.cell g3 (by simp)
  have lx0 := hld.cell x0 (by simp)
  have lx1 := hld.cell x1 (by simp)
  clear hdr hal hla hld
  go_upto_region 4 with fail
  go_region
  have hu2 := ((Upd.refl [] w1).alloc (.cells #[.bool x.ref, .int .i64 x.n] 44)).drew
  have hb5 := (Upd.refl [] _).drew.heap (heap_alloc_new w1 (.cells #[.bool x.ref, .int .i64 x.n] 44)) (by simp)
  have H3 := Lib.hid (H1.out.same hu2)
  have HOS3 := Lib.hid (HOS1.out.upd hu2 (by simp))
  have HU3 := Lib.hid (HU.out.trans hu2)
  have HB3 := Lib.hid (hu2.heap HB1.out (by simp))
  have HB5 := Lib.hid hb5
  have g3 := hu2.cell g3 (by simp)
  have HZ1 : Hid (w.heap.size < w1.heap.size) := lt_of_heap HB1.out
  clear dg3 dx0 dx1 ag3 ax0 ax1 bg3 bx0 bx1 lg3 lx0 lx1 x0 x1 hu2 hb5 H1 HOS1 HU HB1
  go_upto_region 5 with fail
  generalize (w1.alloc (.cells #[.bool x.ref, .int .i64 x.n] 44)).drew = w2 at H3 HOS3 HU3 HB3 HB5 g3 ⊢
  generalize w1.heap.size = b5 at HB5 HZ1 ⊢
  generalize hr : w.heap.size = r at HB3 HZ1 ⊢
  have HR := Lib.hid hr
  clear hr
  obtain ⟨cur, hcur⟩ : ∃ cur, w2.heap[g]? = some (.cells cur 110) := by
    rcases H3.out.frs.row.2 with ⟨h1, _⟩ | ⟨g4, c4, cur, h1, h2, h3, _⟩
    · cases h1
    · injection h1 with e1
      injection e1 with e1
      injection e1 with e1
      subst e1
      exact ⟨cur, h3⟩
  have hfr := H3.out.frs.turn3 (.slice (some ⟨q, 0, none⟩) ys.length sc) ys rfl (HOS3.out.cut)
  have HFR := Lib.hid hfr
  have HCU := Lib.hid hcur
  have dg3 := (Upd.refl [] w2).drew.cell g3 (by simp)
  have dcur := (Upd.refl [] w2).drew.heap hcur (by simp)
  have fg := froz_of hcur (fs.length * 4 + 3)
  have fd := froz_of dcur (fs.length * 4 + 3)
  clear hfr hcur dcur
  go_region
  have hs3 : Upd [g] w2 (w2.setCell ⟨g, fs.length * 4 + 3, none⟩ (.slice (some ⟨q, 0, none⟩) ys.length sc)).drew := ((Upd.refl [g] w2).setCell (.inl (by simp)) _).drew
  have hg5 : b5 ≠ g := heap_ne HB5.out HCU.out (by decide)
  have hgr : r ≠ g := heap_ne HB3.out HCU.out (by decide)
  have hb5 := hs3.heap HB5.out (by simpa using hg5)
  have hb3 := hs3.heap HB3.out (by simpa using hgr)
  have hat := H3.out.at_
  have HST : Hid (StkAt W0 (w2.setCell ⟨g, fs.length * 4 + 3, none⟩ (.slice (some ⟨q, 0, none⟩) ys.length sc)).drew sb ib p ss n0 n cv mv limit words (.slice (some ⟨g, 0, none⟩) (fs.length + 1) c) (fs ++ [{ f with stk := ys }]) (vs ++ [⟨lvv, .slice (some ⟨q, 0, none⟩) ys.length sc⟩])) :=
    ⟨hs3.heap H3.out.box (by simp; omega), HFR.out.upd ((Upd.refl [] _).drew) (by simp), H3.out.info.keep hs3 (fun z hz => by rw [List.mem_singleton] at hz; omega), H3.out.meths, hat⟩
  generalize (w2.setCell ⟨g, fs.length * 4 + 3, none⟩ (.slice (some ⟨q, 0, none⟩) ys.length sc)).drew = w3 at hs3 hb5 hb3 HST ⊢
  have y0 : w3.cell? ⟨b5, 0, none⟩ = some (.bool x.ref) := by rw [cell_of hb5]; rfl
  have y1 : w3.cell? ⟨b5, 1, none⟩ = some (.int .i64 x.n) := by rw [cell_of hb5]; rfl
  have z0 : w3.cell? ⟨r, 0, none⟩ = some (.bool false) := by rw [cell_of hb3]; rfl
  have z1 : w3.cell? ⟨r, 1, none⟩ = some (.int .i64 0) := by rw [cell_of hb3]; rfl
  have f0 := froz_of hb3 0
  have f1 := froz_of hb3 1
  have k2 := heap_setCell (heap_setCell hb3 0 (.bool x.ref)) 1 (.int .i64 x.n)
  have d0 := cell_of k2 0
  have d1 := cell_of k2 1
  simp at d0 d1
  have hst4 : Upd [r] w3 ((w3.setCell ⟨r, 0, none⟩ (.bool x.ref)).setCell ⟨r, 1, none⟩ (.int .i64 x.n)) := ((Upd.refl [r] w3).setCell (.inl (by simp)) _).setCell (.inl (by simp)) _
  have hrs : r ≠ sb := heap_ne hb3 HST.out.box (by decide)
  have hno := HNO.out
  rw [HR.out] at hno
  have hlen : (fs ++ [({ f with stk := ys } : Fr)]).length = (fs ++ [f]).length := by simp
  have hfr4 := HST.out.frs.updN hst4 (fun e => by have := hno.2 _ e; omega) (fun i hi hb => hno.1 i (by rw [← hlen]; exact hi) (has_turn (v := ⟨lvv, .slice (some ⟨q, 0, none⟩) (ys.length + 1) sc⟩) (sv' := .slice (some ⟨q, 0, none⟩) ys.length sc) rfl i r hb))
  have hw0 : sb < r := by
    have := HR.out
    have h9 := HNO.out.2 g rfl
    omega
  have HF4 : Hid (StkAt W0 ((w3.setCell ⟨r, 0, none⟩ (.bool x.ref)).setCell ⟨r, 1, none⟩ (.int .i64 x.n)) sb ib p ss n0 n cv mv limit words (.slice (some ⟨g, 0, none⟩) (fs.length + 1) c) (fs ++ [{ f with stk := ys }]) (vs ++ [⟨lvv, .slice (some ⟨q, 0, none⟩) ys.length sc⟩])) :=
    ⟨hst4.heap HST.out.box (by simp; omega), hfr4, HST.out.info.keep hst4 (fun z hz => by rw [List.mem_singleton] at hz; omega), HST.out.meths, hat⟩
  have HUF : Hid (Upd [g] w ((w3.setCell ⟨r, 0, none⟩ (.bool x.ref)).setCell ⟨r, 1, none⟩ (.int .i64 x.n))) := ((HU3.out.mono (by simp)).trans hs3).trans' hst4 (fun z hz hl => by rw [List.mem_singleton] at hz; have := HR.out; omega)
  have hsg : sb < g := by omega
  clear k2 hno hlen hfr4 hst4 hb5 hb3 hs3 hat
  go_wp2_with fail
  refine bodyPost_ret (v := .tuple #[.agg #[.bool x.ref, .int .i64 x.n], .bool true]) (by simp [results, Tryz.results17, go_sem, d0, d1]) rfl ?_
  exact ⟨rfl, _, HF4.out, g, ⟨rfl, rfl⟩, hsg, HUF.out⟩
theorem stake_any (W0 w : World) (sb ib : Nat) (p : Prg) (ss : List Lk) (n0 n : Int) (cv mv : Value) (limit words : Int) (lv : Value) (fs : List Fr) (vs : List FrV) (f : Fr) (v : FrV) (ys : List Slt) (x : Slt) (h : StkAt W0 w sb ib p ss n0 n cv mv limit words lv (fs ++ [f]) (vs ++ [v])) (hf : f.stk = ys ++ [x]) (hy : ys.length ≤ 100000) :
    Calls Tryz.prog 17 #[.pointer (some ⟨sb, 0, none⟩)] w fun e w' => e = .returned (.tuple #[.agg #[.bool x.ref, .int .i64 x.n], .bool true]) ∧ ∃ sv' g, StkAt W0 w' sb ib p ss n0 n cv mv limit words lv (fs ++ [{ f with stk := ys }]) (vs ++ [⟨v.lv, sv'⟩]) ∧ sb < g ∧ Upd [g] w w' :=
  (stake_own W0 w sb ib p ss n0 n cv mv limit words lv fs vs f v ys x h hf hy).mono fun _ _ ⟨h1, sv', g, h2, _, h3, h4⟩ => ⟨h1, sv', g, h2, h3, h4⟩
end Go.Proofs.YtopojeanbpokaaaGreatDoor

/-! A stack of frames: Take where there is nothing; Lay where there is no room. -/
/-! A stack of frames: Take where there is nothing; Lay where there is no room. -/
namespace Go.Proofs.YtopojeanbpokaaaGreatDoor
open Go.RowKit

set_option maxRecDepth 100000 in
set_option maxHeartbeats 4000000 in
theorem stake_empty (W0 w : World) (sb ib : Nat) (p : Prg) (ss : List Lk) (n0 n : Int) (cv mv : Value) (limit words : Int) (lv : Value) (fs : List Fr) (vs : List FrV) (f : Fr) (v : FrV) (h : StkAt W0 w sb ib p ss n0 n cv mv limit words lv (fs ++ [f]) (vs ++ [v])) (hf : f.stk = []) :
    Calls Tryz.prog 17 #[.pointer (some ⟨sb, 0, none⟩)] w fun e w' => e = .returned (.tuple #[.agg #[.bool false, .int .i64 0], .bool false]) ∧ Upd [] w w' := by
  have hl : vs.length = fs.length := by have := h.frs.len; simpa using this
  have hu0 := (Upd.refl [] w).alloc (.cells #[.bool false, .int .i64 0] 44)
  have hb0 := heap_alloc_new w (.cells #[.bool false, .int .i64 0] 44)
  have h2 := h.same hu0
  have HTP := Lib.hid (stop_any W0 _ sb ib p ss n0 n cv mv limit words lv _ _ h2)
  obtain ⟨g, c, rfl, ht, hg, g0, g1, g2, g3⟩ := top_at h2.frs hl
  rw [ht] at HTP
  have hos : OwnSl (w.alloc (.cells #[.bool false, .int .i64 0] 44)) (sb + 1) v.sv [] := by
    have h3 := h2.frs.stk fs.length (by simp)
    rw [getD_snoc_eq] at h3
    rw [show (vs ++ [v]).getD fs.length default = v by rw [← hl]; exact getD_snoc_eq _ _ _] at h3
    rwa [hf] at h3
  obtain ⟨lvv, svv⟩ := v
  simp only at g2 g3 hos
  obtain ⟨q, sc, rfl⟩ := hos.shape
  have g3 : (w.alloc (.cells #[.bool false, .int .i64 0] 44)).cell? ⟨g, fs.length * 4 + 3, none⟩ = some (.slice q 0 sc) := g3
  have HU0 := Lib.hid hu0
  have HB0 := Lib.hid hb0
  clear h h2 hu0 hb0 ht hl g0 g1 g2 hos hf
  go_enter Tryz.func17, Tryz.ntmps17
  go_upto_region 1 with fail
  generalize w.alloc (.cells #[.bool false, .int .i64 0] 44) = w0 at HU0 HB0 HTP g3 ⊢
  go_wp2_with fail
  refine HTP.out.mono ?_
  rintro e w1 ⟨rfl, hu⟩
  have hb1 := hu.heap HB0.out (by simp)
  have g3 := hu.cell g3 (by simp)
  have HU := Lib.hid (HU0.out.trans hu)
  have c0 : w1.cell? ⟨w.heap.size, 0, none⟩ = some (.bool false) := by rw [cell_of hb1]; rfl
  have c1 : w1.cell? ⟨w.heap.size, 1, none⟩ = some (.int .i64 0) := by rw [cell_of hb1]; rfl
  have f0 := froz_of hb1 0
  have f1 := froz_of hb1 1
  have k2 := heap_setCell (heap_setCell hb1 0 (.bool false)) 1 (.int .i64 0)
  have d0 := cell_of k2 0
  have d1 := cell_of k2 1
  simp at d0 d1
  have HUE : Hid (Upd [] w ((w1.setCell ⟨w.heap.size, 0, none⟩ (.bool false)).setCell ⟨w.heap.size, 1, none⟩ (.int .i64 0))) := (HU.out.setCell (.inr (Nat.le_refl _)) _).setCell (.inr (Nat.le_refl _)) _
  clear hu HTP hb1 HB0 HU0 k2
  go_wp2_with fail
  refine bodyPost_ret (v := .tuple #[.agg #[.bool false, .int .i64 0], .bool false]) (by simp [results, Tryz.results17, go_sem, d0, d1]) rfl ?_
  exact ⟨rfl, HUE.out⟩

set_option maxRecDepth 100000 in
set_option maxHeartbeats 4000000 in
theorem slay_full (W0 w : World) (sb ib : Nat) (p : Prg) (ss : List Lk) (n0 n : Int) (cv mv : Value) (limit words : Int) (lv : Value) (fs : List Fr) (vs : List FrV) (f : Fr) (v : FrV) (x : Slt) (h : StkAt W0 w sb ib p ss n0 n cv mv limit words lv (fs ++ [f]) (vs ++ [v])) (hs : 12 ≤ f.stk.length) :
    Calls Tryz.prog 16 #[.pointer (some ⟨sb, 0, none⟩), .agg #[.bool x.ref, .int .i64 x.n]] w fun e w' => e = .returned (.bool false) ∧ Upd [] w w' := by
  have hl : vs.length = fs.length := by have := h.frs.len; simpa using this
  have hu0 := (Upd.refl [] w).alloc (.cells #[.bool x.ref, .int .i64 x.n] 44)
  have h2 := h.same hu0
  have HTP := Lib.hid (stop_any W0 _ sb ib p ss n0 n cv mv limit words lv _ _ h2)
  obtain ⟨g, c, rfl, ht, hg, g0, g1, g2, g3⟩ := top_at h2.frs hl
  rw [ht] at HTP
  have hos : OwnSl (w.alloc (.cells #[.bool x.ref, .int .i64 x.n] 44)) (sb + 1) v.sv f.stk := by
    have h3 := h2.frs.stk fs.length (by simp)
    rw [getD_snoc_eq] at h3
    rw [show (vs ++ [v]).getD fs.length default = v by rw [← hl]; exact getD_snoc_eq _ _ _] at h3
    exact h3
  obtain ⟨lvv, svv⟩ := v
  simp only at g2 g3 hos
  obtain ⟨sp, sc, rfl⟩ := hos.shape
  have HU0 := Lib.hid hu0
  clear h h2 hu0 ht hl g0 g1 g2 hos
  have e1 : decide (12 ≤ f.stk.length) = true := decide_eq_true hs
  go_enter Tryz.func16, Tryz.ntmps16
  go_upto_region 1 with fail
  generalize w.alloc (.cells #[.bool x.ref, .int .i64 x.n] 44) = w0 at HU0 HTP g3 ⊢
  go_wp2_with fail
  refine HTP.out.mono ?_
  rintro e w1 ⟨rfl, hu⟩
  have g3 := hu.cell g3 (by simp)
  have HU := Lib.hid (HU0.out.trans hu)
  clear hu HTP HU0
  go_wp2_with fail
  go_ret
  exact ⟨rfl, HU.out⟩
end Go.Proofs.YtopojeanbpokaaaGreatDoor

/-! A stack of frames: what is refused (Jump, Lay, Take, New). -/
/-! A stack of frames: what is refused (Jump, Lay, Take, New). -/
namespace Go.Proofs.YtopojeanbpokaaaGreatDoor
open Go.RowKit

section
variable (W0 w : World) (sb ib : Nat) (p : Prg) (ss : List Lk) (n0 n : Int) (cv mv : Value) (limit words : Int) (lv : Value)
set_option maxRecDepth 100000 in
set_option maxHeartbeats 1000000 in
theorem sjump_none (vs : List FrV) (pc : Int) (h : StkAt W0 w sb ib p ss n0 n cv mv limit words lv [] vs) :
    Calls Tryz.prog 14 #[.pointer (some ⟨sb, 0, none⟩), .int .i64 pc] w fun e w' => e = .returned (.bool false) ∧ Upd [] w w' := by
  have HTP := Lib.hid (stop_any W0 w sb ib p ss n0 n cv mv limit words lv [] vs h)
  rw [topP_none h.frs] at HTP
  clear h
  go_enter Tryz.func14, Tryz.ntmps14
  go_wp2_with fail
  refine HTP.out.mono ?_
  rintro e w1 ⟨rfl, hu⟩
  have HU := Lib.hid hu
  clear hu HTP
  go_wp2_with fail
  go_quiet (fail)
  go_wp2_with fail
  go_ret
  exact ⟨rfl, HU.out.trans ((Upd.refl [] w1).drewN nq)⟩

set_option maxRecDepth 100000 in
set_option maxHeartbeats 2000000 in
theorem sjump_no (fs : List Fr) (vs : List FrV) (f : Fr) (v : FrV) (pc : Int) (h : StkAt W0 w sb ib p ss n0 n cv mv limit words lv (fs ++ [f]) (vs ++ [v])) (hf : f.m < p.ms.length) (hpc : ¬ (0 ≤ pc ∧ pc < ((p.ms.getD f.m default).code.length : Int))) :
    Calls Tryz.prog 14 #[.pointer (some ⟨sb, 0, none⟩), .int .i64 pc] w fun e w' => e = .returned (.bool false) ∧ Upd [] w w' := by
  have hl : vs.length = fs.length := by have := h.frs.len; simpa using this
  have HTP := Lib.hid (stop_any W0 w sb ib p ss n0 n cv mv limit words lv _ _ h)
  obtain ⟨g, c, rfl, ht, hg, g0, g1, g2, g3⟩ := top_at h.frs hl
  rw [ht] at HTP
  obtain ⟨b, o, mc, ka, kc, rfl, q0, q1, q2, q3⟩ := h.meth hf
  have m2 : w.cell? ⟨sb, 2, none⟩ = some (.slice (some ⟨b, o, none⟩) p.ms.length mc) := by rw [cell_of h.box]; rfl
  generalize (p.ms.getD f.m default).code.length = L at q3 hpc
  clear h ht hl g1 g2 g3 q0 q1 q2
  have hor : decide (pc < 0) = true ∨ (decide (pc < 0) = false ∧ decide ((L : Int) ≤ pc) = true) := by
    by_cases h0 : pc < 0
    · exact .inl (decide_eq_true h0)
    · exact .inr ⟨decide_eq_false h0, decide_eq_true (by omega)⟩
  clear hpc
  go_enter Tryz.func14, Tryz.ntmps14
  go_wp2_with fail
  refine HTP.out.mono ?_
  rintro e w1 ⟨rfl, hu⟩
  have HU := Lib.hid hu
  have g0 := hu.cell g0 (by simp)
  have q3 := hu.cell q3 (by simp)
  have m2 := hu.cell m2 (by simp)
  clear hu HTP
  rcases hor with d0 | ⟨d0, d1⟩
  · go_upto_region 2 with fail
    go_quiet (fail)
    go_wp2_with fail
    go_ret
    exact ⟨rfl, HU.out.trans ((Upd.refl [] w1).drewN nq)⟩
  · go_upto_region 2 with fail
    go_quiet (fail)
    go_wp2_with fail
    go_ret
    exact ⟨rfl, HU.out.trans ((Upd.refl [] w1).drewN nq)⟩

set_option maxRecDepth 100000 in
set_option maxHeartbeats 1000000 in
theorem slay_none (vs : List FrV) (x : Slt) (h : StkAt W0 w sb ib p ss n0 n cv mv limit words lv [] vs) :
    Calls Tryz.prog 16 #[.pointer (some ⟨sb, 0, none⟩), .agg #[.bool x.ref, .int .i64 x.n]] w fun e w' => e = .returned (.bool false) ∧ Upd [] w w' := by
  have hu0 := (Upd.refl [] w).alloc (.cells #[.bool x.ref, .int .i64 x.n] 44)
  have h2 := h.same hu0
  have HTP := Lib.hid (stop_any W0 _ sb ib p ss n0 n cv mv limit words lv [] vs h2)
  rw [topP_none h2.frs] at HTP
  have HU0 := Lib.hid hu0
  clear h h2 hu0
  go_enter Tryz.func16, Tryz.ntmps16
  go_upto_region 1 with fail
  generalize w.alloc (.cells #[.bool x.ref, .int .i64 x.n] 44) = w0 at HU0 HTP ⊢
  go_wp2_with fail
  refine HTP.out.mono ?_
  rintro e w1 ⟨rfl, hu⟩
  have HU := Lib.hid (HU0.out.trans hu)
  clear hu HTP HU0
  go_wp2_with fail
  go_ret
  exact ⟨rfl, HU.out⟩

set_option maxRecDepth 100000 in
set_option maxHeartbeats 4000000 in
theorem slay_neg (fs : List Fr) (vs : List FrV) (f : Fr) (v : FrV) (xn : Int) (h : StkAt W0 w sb ib p ss n0 n cv mv limit words lv (fs ++ [f]) (vs ++ [v])) (hs : f.stk.length < 12) (hx : xn < 0) :
    Calls Tryz.prog 16 #[.pointer (some ⟨sb, 0, none⟩), .agg #[.bool true, .int .i64 xn]] w fun e w' => e = .returned (.bool false) ∧ Upd [] w w' := by
  have hl : vs.length = fs.length := by have := h.frs.len; simpa using this
  have hu0 := (Upd.refl [] w).alloc (.cells #[.bool true, .int .i64 xn] 44)
  have hb0 := heap_alloc_new w (.cells #[.bool true, .int .i64 xn] 44)
  have h2 := h.same hu0
  have HTP := Lib.hid (stop_any W0 _ sb ib p ss n0 n cv mv limit words lv _ _ h2)
  obtain ⟨g, c, rfl, ht, hg, g0, g1, g2, g3⟩ := top_at h2.frs hl
  rw [ht] at HTP
  have hos : OwnSl (w.alloc (.cells #[.bool true, .int .i64 xn] 44)) (sb + 1) v.sv f.stk := by
    have h3 := h2.frs.stk fs.length (by simp)
    rw [getD_snoc_eq] at h3
    rw [show (vs ++ [v]).getD fs.length default = v by rw [← hl]; exact getD_snoc_eq _ _ _] at h3
    exact h3
  obtain ⟨lvv, svv⟩ := v
  simp only at g2 g3 hos
  obtain ⟨sp, sc, rfl⟩ := hos.shape
  have HU0 := Lib.hid hu0
  have HB0 := Lib.hid hb0
  clear h h2 hu0 hb0 ht hl g0 g1 g2 hos
  have e1 : decide (12 ≤ f.stk.length) = false := decide_eq_false (by omega)
  have e2 : decide (xn < 0) = true := decide_eq_true hx
  go_enter Tryz.func16, Tryz.ntmps16
  go_upto_region 1 with fail
  generalize w.alloc (.cells #[.bool true, .int .i64 xn] 44) = w0 at HU0 HB0 HTP g3 ⊢
  go_wp2_with fail
  refine HTP.out.mono ?_
  rintro e w1 ⟨rfl, hu⟩
  have hb1 := hu.heap HB0.out (by simp)
  have g3 := hu.cell g3 (by simp)
  have HU := Lib.hid (HU0.out.trans hu)
  have c0 : w1.cell? ⟨w.heap.size, 0, none⟩ = some (.bool true) := by rw [cell_of hb1]; rfl
  have c1 : w1.cell? ⟨w.heap.size, 1, none⟩ = some (.int .i64 xn) := by rw [cell_of hb1]; rfl
  clear hu HTP HU0 HB0 hb1
  go_wp2_with fail
  go_ret
  exact ⟨rfl, HU.out⟩

set_option maxRecDepth 100000 in
set_option maxHeartbeats 2000000 in
theorem stake_none (vs : List FrV) (h : StkAt W0 w sb ib p ss n0 n cv mv limit words lv [] vs) :
    Calls Tryz.prog 17 #[.pointer (some ⟨sb, 0, none⟩)] w fun e w' => e = .returned (.tuple #[.agg #[.bool false, .int .i64 0], .bool false]) ∧ Upd [] w w' := by
  have hu0 := (Upd.refl [] w).alloc (.cells #[.bool false, .int .i64 0] 44)
  have hb0 := heap_alloc_new w (.cells #[.bool false, .int .i64 0] 44)
  have h2 := h.same hu0
  have HTP := Lib.hid (stop_any W0 _ sb ib p ss n0 n cv mv limit words lv [] vs h2)
  rw [topP_none h2.frs] at HTP
  have HU0 := Lib.hid hu0
  have HB0 := Lib.hid hb0
  clear h h2 hu0 hb0
  go_enter Tryz.func17, Tryz.ntmps17
  go_upto_region 1 with fail
  generalize w.alloc (.cells #[.bool false, .int .i64 0] 44) = w0 at HU0 HB0 HTP ⊢
  go_wp2_with fail
  refine HTP.out.mono ?_
  rintro e w1 ⟨rfl, hu⟩
  have hb1 := hu.heap HB0.out (by simp)
  have HU := Lib.hid (HU0.out.trans hu)
  have c0 : w1.cell? ⟨w.heap.size, 0, none⟩ = some (.bool false) := by rw [cell_of hb1]; rfl
  have c1 : w1.cell? ⟨w.heap.size, 1, none⟩ = some (.int .i64 0) := by rw [cell_of hb1]; rfl
  have f0 := froz_of hb1 0
  have f1 := froz_of hb1 1
  have k2 := heap_setCell (heap_setCell hb1 0 (.bool false)) 1 (.int .i64 0)
  have d0 := cell_of k2 0
  have d1 := cell_of k2 1
  simp at d0 d1
  have HUE : Hid (Upd [] w ((w1.setCell ⟨w.heap.size, 0, none⟩ (.bool false)).setCell ⟨w.heap.size, 1, none⟩ (.int .i64 0))) := (HU.out.setCell (.inr (Nat.le_refl _)) _).setCell (.inr (Nat.le_refl _)) _
  clear hu HTP hb1 HB0 HU0 k2
  go_wp2_with fail
  refine bodyPost_ret (v := .tuple #[.agg #[.bool false, .int .i64 0], .bool false]) (by simp [results, Tryz.results17, go_sem, d0, d1]) rfl ?_
  exact ⟨rfl, HUE.out⟩
end
set_option maxRecDepth 100000 in
set_option maxHeartbeats 1000000 in
theorem snew_bad (E : Nat → Addr) (ib : Nat) (limit : Int) (w : World) (hS : SentAll w E) (hl : limit < 0 ∨ 65536 < limit) :
    Calls Tryz.prog 7 #[.pointer (some ⟨ib, 0, none⟩), .int .i64 limit] w fun e w' => e = .returned (.tuple #[.pointer none, sErr E 10]) ∧ Upd [] w w' := by
  have e10 : w.cell? ⟨0, 0, none⟩ = some (sErr E 10) := hS.g 10 (by omega)
  unfold sErr at e10 ⊢
  have hor : decide (limit < 0) = true ∨ (decide (limit < 0) = false ∧ decide ((65536 : Int) < limit) = true) := by
    by_cases h0 : limit < 0
    · exact .inl (decide_eq_true h0)
    · exact .inr ⟨decide_eq_false h0, decide_eq_true (by omega)⟩
  clear hS hl
  go_enter Tryz.func7, Tryz.ntmps7
  rcases hor with d0 | ⟨d0, d1⟩
  all_goals
    go_upto_region 2 with fail
    go_quiet (fail)
    go_wp2_with fail
    go_ret2
    exact ⟨rfl, (Upd.refl [] w).drewN nq⟩
end Go.Proofs.YtopojeanbpokaaaGreatDoor

/-! A stack of frames: Push that is refused by its method or its arguments. -/
/-! A stack of frames: Push that is refused by its method or its arguments. -/
namespace Go.Proofs.YtopojeanbpokaaaGreatDoor
open Go.RowKit

set_option maxRecDepth 100000 in
set_option maxHeartbeats 2000000 in
theorem spush_index (E : Nat → Addr) (W0 w : World) (sb ib : Nat) (p : Prg) (ss : List Lk) (n0 n : Int) (cv mv : Value) (limit words : Int) (lv : Value) (fs : List Fr) (vs : List FrV) (k : Int) (ap : Option Addr) (an ac : Nat)
    (h : StkAt W0 w sb ib p ss n0 n cv mv limit words lv fs vs) (hS : SentAll w E) (hk : ¬ (0 ≤ k ∧ k < (p.ms.length : Int))) :
    Calls Tryz.prog 9 #[.pointer (some ⟨sb, 0, none⟩), .int .i64 k, .slice ap an ac] w fun e w' => e = .returned (sErr E 2) ∧ w' = w := by
  obtain ⟨mp, mc, hmv, _⟩ := h.meths
  subst hmv
  have m2 : w.cell? ⟨sb, 2, none⟩ = some (.slice mp p.ms.length mc) := by rw [cell_of h.box]; rfl
  have e2 : w.cell? ⟨1, 0, none⟩ = some (sErr E 2) := hS.g 2 (by omega)
  unfold sErr at e2 ⊢
  have hor : decide (k < 0) = true ∨ (decide (k < 0) = false ∧ decide ((p.ms.length : Int) ≤ k) = true) := by
    by_cases h0 : k < 0
    · exact .inl (decide_eq_true h0)
    · exact .inr ⟨decide_eq_false h0, decide_eq_true (by omega)⟩
  clear h hS hk
  go_enter Tryz.func9, Tryz.ntmps9
  rcases hor with d0 | ⟨d0, d1⟩
  all_goals
    go_wp2_with fail
    go_ret
    exact ⟨rfl, rfl⟩

set_option maxRecDepth 100000 in
set_option maxHeartbeats 4000000 in
theorem spush_shape (E : Nat → Addr) (W0 w : World) (sb ib : Nat) (p : Prg) (ss : List Lk) (n0 n : Int) (cv mv : Value) (limit words : Int) (lv : Value) (fs : List Fr) (vs : List FrV) (k : Nat) (av : Value) (ab : Nat) (xs : List Slt)
    (h : StkAt W0 w sb ib p ss n0 n cv mv limit words lv fs vs) (hS : SentAll w E) (hk : k < p.ms.length) (ha : SltV w av ab xs) (hxs : xs.length ≤ 100000)
    (hfit : xs.length = (p.ms.getD k default).params.size → ∃ i, ∃ hi : i < (p.ms.getD k default).params.size, fitsB (xs.getD i default) ((((p.ms.getD k default).params[i]'hi).toNat : Int)) = false) :
    Calls Tryz.prog 9 #[.pointer (some ⟨sb, 0, none⟩), .int .i64 k, av] w fun e w' => e = .returned (sErr E 4) ∧ Upd [] w w' := by
  obtain ⟨b, o, mc, ka, kc, rfl, q0, q1, q2, q3⟩ := h.meth hk
  have m2 : w.cell? ⟨sb, 2, none⟩ = some (.slice (some ⟨b, o, none⟩) p.ms.length mc) := by rw [cell_of h.box]; rfl
  have HSE := Lib.hid hS
  have HA := Lib.hid ha
  obtain ⟨ap, ac, rfl⟩ := ha.form
  have hmany : k < 9223372036854775807 := by
    obtain ⟨_, _, e, h1, h2, _⟩ := h.meths
    unfold maxLen at h2
    omega
  generalize p.ms.getD k default = m at q0 q1 q2 q3 hfit
  clear h hS ha
  have d0 : decide ((k : Int) < 0) = false := decide_eq_false (by omega)
  have d1 : decide (p.ms.length ≤ k) = false := decide_eq_false (by omega)
  have hu1 := (Upd.refl [] w).alloc (.cells #[.string m.params, .string m.locals, .string m.ret, .slice ka m.code.length kc] 51)
  have hb1 := heap_alloc_new w (.cells #[.string m.params, .string m.locals, .string m.ret, .slice ka m.code.length kc] 51)
  have HU1 := Lib.hid hu1
  have HB1 := Lib.hid hb1
  have HE4 : Hid (∀ W, Upd [] w W → W.cell? ⟨2, 0, none⟩ = some (.iface 212 (.pointer (some (E 4))))) := fun W hu => hu.cell (HSE.out.g 4 (by omega)) (by simp)
  unfold sErr
  clear hu1 hb1
  go_enter Tryz.func9, Tryz.ntmps9
  go_upto_region 4 with fail
  generalize w.alloc (.cells #[.string m.params, .string m.locals, .string m.ret, .slice ka m.code.length kc] 51) = w1 at HU1 HB1 ⊢
  generalize w.heap.size = mb at HB1 ⊢
  clear m2 q0 q1 q2 q3 d0 d1
  have s0 : w1.cell? ⟨mb, 0, none⟩ = some (.string m.params) := by rw [cell_of HB1.out]; rfl
  have z4 := HE4.out w1 HU1.out
  by_cases hal : xs.length = m.params.size
  · have HAL := Lib.hid hal
    obtain ⟨j, hj, hbad⟩ := hfit hal
    have HBAD : Hid (fitsB (xs.getD j default) (((m.params[j]'hj).toNat : Int)) = false) := hbad
    clear hfit hbad
    go_wp2_with fail
    clear hal
    go_loopw [8, 9, 43] (fun _ _ iv wr => ∃ i : Nat, i ≤ j ∧ iv = .int .i64 i ∧ Hid (Upd [] w1 wr)) (fun _ _ iv _ => j - (intOf iv).toNat)
    case atStart => exact ⟨0, by omega, rfl, Upd.refl _ _⟩
    case round =>
      clear s0 z4
      obtain ⟨i, hi, rfl, HV⟩ := hrel
      obtain ⟨wo, rfl⟩ : ∃ wo : World, wo = wr := ⟨_, rfl⟩
      have s0 : wo.cell? ⟨mb, 0, none⟩ = some (.string m.params) := HV.out.cell (by rw [cell_of HB1.out]; rfl) (by simp)
      have hlt : i < m.params.size := by omega
      have hix : i < xs.length := by rw [HAL.out]; exact hlt
      obtain ⟨x0, x1⟩ := HA.out.2 i hix
      have hap : ap = some ⟨ab, 0, none⟩ := by
        rcases HA.out.1 with ⟨_, e⟩ | ⟨c2, e⟩
        · rw [e] at hix; simp at hix
        · injection e
      subst hap
      have HJE : Hid (i = j → fitsB (xs.getD i default) (((m.params[i]'hlt).toNat : Int)) = false) := fun e => by subst e; exact HBAD.out
      generalize xs.getD i default = x at x0 x1 HJE
      have x0 := (HU1.out.trans HV.out).cell x0 (by simp)
      have x1 := (HU1.out.trans HV.out).cell x1 (by simp)
      obtain ⟨r, xn⟩ := x
      simp only at x0 x1
      have hu2 := (Upd.refl [] wo).alloc (.cells #[.bool r, .int .i64 xn] 44)
      have hb2 := heap_alloc_new wo (.cells #[.bool r, .int .i64 xn] 44)
      have HU2 := Lib.hid hu2
      have s0 := hu2.cell s0 (by simp)
      go_upto_region 9 with fail
      generalize wo.alloc (.cells #[.bool r, .int .i64 xn] 44) = w2 at HU2 hb2 s0 ⊢
      generalize wo.heap.size = xb at hb2 ⊢
      have y0 : w2.cell? ⟨xb, 0, none⟩ = some (.bool r) := by rw [cell_of hb2]; rfl
      have y1 : w2.cell? ⟨xb, 1, none⟩ = some (.int .i64 xn) := by rw [cell_of hb2]; rfl
      clear hu2 hb2
      obtain ⟨B, hB⟩ : ∃ B, fitsB ⟨r, xn⟩ ((m.params[i]'hlt).toNat : Int) = B := ⟨_, rfl⟩
      have HF := Lib.hid (fun W => fits_any ⟨r, xn⟩ ((m.params[i]'hlt).toNat : Int) W)
      rw [hB] at HF HJE
      simp only at HF
      clear hB
      have hF0 : w2.cell? ⟨xb, 0, none⟩ = some (.bool r) ∧ w2.cell? ⟨xb, 1, none⟩ = some (.int .i64 xn) ∧ w2.cell? ⟨mb, 0, none⟩ = some (.string m.params) := ⟨y0, y1, s0⟩
      have hF1 : w2.drew.cell? ⟨xb, 0, none⟩ = some (.bool r) ∧ w2.drew.cell? ⟨xb, 1, none⟩ = some (.int .i64 xn) ∧ w2.drew.cell? ⟨mb, 0, none⟩ = some (.string m.params) := hF0
      have hli : (i : Int) < (m.params.size : Int) := by omega
      go_region_held3 (fun W => W.cell? ⟨xb, 0, none⟩ = some (.bool r) ∧ W.cell? ⟨xb, 1, none⟩ = some (.int .i64 xn) ∧ W.cell? ⟨mb, 0, none⟩ = some (.string m.params))
        (first | exact hk0 | exact hF1 | exact hF0)
        ((go_at_call 37; refine (HF.out _).mono ?_; rintro e w3 ⟨rfl, hu3⟩; have hk0 := (⟨hu3.cell hF1.1 (by simp), hu3.cell hF1.2.1 (by simp), hu3.cell hF1.2.2 (by simp)⟩ : _ ∧ _ ∧ _)))
      have HV3 := Lib.hid ((HV.out.trans HU2.out).drew.trans hu3)
      clear hu3 hk0 hF0 hF1 s0 y0 y1 x0 x1
      cases B with
      | true =>
        have hne : i < j := by
          rcases Nat.lt_or_ge i j with h | h
          · exact h
          · have := HJE.out (by omega)
            cases this
        go_wp2_with fail
        go_roundw
        case rel => exact ⟨i + 1, by omega, by go_num, HV3.out⟩
        case measure => simp [intOf]; omega
      | false =>
        have z4 := HE4.out w3 (HU1.out.trans HV3.out)
        go_wp2_with fail
        go_ret
        exact ⟨rfl, HU1.out.trans HV3.out⟩
  · have hne : ((xs.length : Int) != (m.params.size : Int)) = true := by simpa using (fun e => hal (by omega))
    have hne2 : ((xs.length : Int) == (m.params.size : Int)) = false := by rw [beq_eq_false_iff_ne]; omega
    clear hfit
    go_wp2_with fail
    go_ret
    exact ⟨rfl, HU1.out⟩
end Go.Proofs.YtopojeanbpokaaaGreatDoor

/-! A stack of frames: a local is set (in memory). -/
/-! A stack of frames: a local is set (in memory). -/
namespace Go.Proofs.YtopojeanbpokaaaGreatDoor
open Go.RowKit

theorem slcells_set2 : ∀ (xs : List Slt) (k : Nat) (x : Slt), k < xs.length → slcells (xs.set k x) = ((slcells xs).set (k * 2) (.bool x.ref)).set (k * 2 + 1) (.int .i64 x.n)
  | [], k, _, h => by simp at h
  | ⟨r, n⟩ :: xs, 0, x, _ => rfl
  | y :: xs, k + 1, x, h => by
    have ih := slcells_set2 xs k x (by simpa using h)
    have e : (k + 1) * 2 + 1 = k * 2 + 1 + 1 + 1 := by omega
    have e2 : (k + 1) * 2 = k * 2 + 1 + 1 := by omega
    rw [e, e2, List.set_cons_succ]
    simp only [slcells, List.set_cons_succ]
    rw [ih]
theorem OwnSl.put {w : World} {B q c : Nat} {xs : List Slt} (h : OwnSl w B (.slice (some ⟨q, 0, none⟩) xs.length c) xs) (k : Nat) (x : Slt) (hk : k < xs.length) : OwnSl ((w.setCell ⟨q, k * 2, none⟩ (.bool x.ref)).setCell ⟨q, k * 2 + 1, none⟩ (.int .i64 x.n)) B (.slice (some ⟨q, 0, none⟩) xs.length c) (xs.set k x) := by
  unfold OwnSl
  rw [List.length_set, slcells_set2 xs k x hk]
  exact ownsRow_set (ownsRow_set h _ _) _ _
/-- The frame on top: a local is set. -/
theorem FrsAt.putL {w : World} {B g c q lc : Nat} {fs : List Fr} {vs : List FrV} {f : Fr} {v : FrV} (k : Nat) (x : Slt) (h : FrsAt w B (.slice (some ⟨g, 0, none⟩) (fs.length + 1) c) (fs ++ [f]) (vs ++ [v])) (hk : k < f.loc.length) (hv : v.lv = .slice (some ⟨q, 0, none⟩) f.loc.length lc) :
    FrsAt ((w.setCell ⟨q, k * 2, none⟩ (.bool x.ref)).setCell ⟨q, k * 2 + 1, none⟩ (.int .i64 x.n)) B (.slice (some ⟨g, 0, none⟩) (fs.length + 1) c) (fs ++ [{ f with loc := f.loc.set k x }]) (vs ++ [v]) := by
  have hl : vs.length = fs.length := by have := h.len; simpa using this
  have hlen : (fs ++ [f]).length = fs.length + 1 := by simp
  have hu : Upd [q] w ((w.setCell ⟨q, k * 2, none⟩ (.bool x.ref)).setCell ⟨q, k * 2 + 1, none⟩ (.int .i64 x.n)) := ((Upd.refl [q] w).setCell (.inl (by simp)) _).setCell (.inl (by simp)) _
  have vlast : (vs ++ [v]).getD fs.length default = v := by rw [← hl]; exact getD_snoc_eq _ _ _
  have fi : ∀ {i}, i < fs.length → (fs ++ [({ f with loc := f.loc.set k x } : Fr)]).getD i default = (fs ++ [f]).getD i default := fun hi => by rw [getD_snoc_lt _ _ _ _ hi, getD_snoc_lt _ _ _ _ hi]
  have flast : (fs ++ [f]).getD fs.length default = f := getD_snoc_eq _ _ _
  have flast2 : (fs ++ [({ f with loc := f.loc.set k x } : Fr)]).getD fs.length default = { f with loc := f.loc.set k x } := getD_snoc_eq _ _ _
  have hq : ((vs ++ [v]).getD fs.length default).has q := by rw [vlast]; exact .inl (by rw [hv]; rfl)
  have keep : ∀ {u : Value} {xs : List Slt}, OwnSl w B u xs → u.ownBlock ≠ some q → OwnSl ((w.setCell ⟨q, k * 2, none⟩ (.bool x.ref)).setCell ⟨q, k * 2 + 1, none⟩ (.int .i64 x.n)) B u xs := fun ho hne => ho.upd hu (fun z hz hm => hne (by rw [List.mem_singleton] at hm; rw [← hm]; exact hz))
  refine ⟨?_, by simp [hl], fun i hi => ?_, fun i hi => ?_, fun i hi => h.two i (by simpa using hi), fun i j hi hj => h.apart i j (by simpa using hi) (by simpa using hj)⟩
  · have hrow := h.row
    have e1 : frcells (fs ++ [({ f with loc := f.loc.set k x } : Fr)]) (vs ++ [v]) = frcells (fs ++ [f]) (vs ++ [v]) := by rw [frcells_snoc _ _ _ _ hl, frcells_snoc _ _ _ _ hl]
    have e2 : (fs ++ [({ f with loc := f.loc.set k x } : Fr)]).length = (fs ++ [f]).length := by simp
    rw [e1, e2]
    exact row_upd hrow hu (fun z hz hm => by
      rw [List.mem_singleton] at hm
      subst hm
      exact h.has_ne (i := fs.length) (by simp) hq hz)
  · have hi : i < fs.length + 1 := by simpa using hi
    have h1 := h.loc i (by rw [hlen]; exact hi)
    by_cases e : i < fs.length
    · rw [fi e]
      exact keep h1 (fun hb => h.apart fs.length i (by simp) (by rw [hlen]; exact hi) (by omega) q hq (.inl hb))
    · have e2 : i = fs.length := by omega
      subst e2
      rw [vlast] at h1 ⊢
      rw [flast, hv] at h1
      rw [flast2, hv]
      exact h1.put k x hk
  · have hi : i < fs.length + 1 := by simpa using hi
    have h1 := h.stk i (by rw [hlen]; exact hi)
    by_cases e : i < fs.length
    · rw [fi e]
      exact keep h1 (fun hb => h.apart fs.length i (by simp) (by rw [hlen]; exact hi) (by omega) q hq (.inr hb))
    · have e2 : i = fs.length := by omega
      subst e2
      have h2 := h.two fs.length (by simp) q
      rw [vlast] at h1 h2 ⊢
      rw [flast] at h1
      rw [flast2]
      exact keep h1 (h2 (by rw [hv]; rfl))
end Go.Proofs.YtopojeanbpokaaaGreatDoor

/-! A stack of frames: SetLocal. -/
/-! A stack of frames: SetLocal. -/
namespace Go.Proofs.YtopojeanbpokaaaGreatDoor
open Go.RowKit

set_option maxRecDepth 100000 in
set_option maxHeartbeats 4000000 in
theorem ssetlocal_ok (W0 w : World) (sb ib : Nat) (p : Prg) (ss : List Lk) (n0 n : Int) (cv mv : Value) (limit words : Int) (lv : Value) (fs : List Fr) (vs : List FrV) (f : Fr) (v : FrV) (i : Nat) (x : Slt) (h : StkAt W0 w sb ib p ss n0 n cv mv limit words lv (fs ++ [f]) (vs ++ [v])) (hf : f.m < p.ms.length) (hi : i < f.loc.length)
    (hz1 : (p.ms.getD f.m default).params.size ≤ 1000) (hz2 : (p.ms.getD f.m default).locals.size ≤ 1000) (hik : i < (bs (kindsL (p.ms.getD f.m default))).size) (hfit : fitsB x ((((bs (kindsL (p.ms.getD f.m default)))[i]'hik).toNat : Int)) = true) :
    Calls Tryz.prog 15 #[.pointer (some ⟨sb, 0, none⟩), .int .i64 i, .agg #[.bool x.ref, .int .i64 x.n]] w fun e w' => e = .returned (.bool true) ∧ StkAt W0 w' sb ib p ss n0 n cv mv limit words lv (fs ++ [{ f with loc := f.loc.set i x }]) (vs ++ [v]) ∧ ∃ q, v.lv.ownBlock = some q ∧ sb < q ∧ Upd [q] w w' := by
  have hl : vs.length = fs.length := by have := h.frs.len; simpa using this
  have hu0 := (Upd.refl [] w).alloc (.cells #[.bool x.ref, .int .i64 x.n] 44)
  have hb0 := heap_alloc_new w (.cells #[.bool x.ref, .int .i64 x.n] 44)
  have h2 := h.same hu0
  have HTP := Lib.hid (stop_any W0 _ sb ib p ss n0 n cv mv limit words lv _ _ h2)
  obtain ⟨g, c, rfl, ht, hg, g0, g1, g2, g3⟩ := top_at h2.frs hl
  rw [ht] at HTP
  obtain ⟨b, o, mc, ka, kc, rfl, q0, q1, q2, q3⟩ := h2.meth hf
  have hos : OwnSl w (sb + 1) v.lv f.loc := by
    have h3 := h.frs.loc fs.length (by simp)
    rw [getD_snoc_eq] at h3
    rw [show (vs ++ [v]).getD fs.length default = v by rw [← hl]; exact getD_snoc_eq _ _ _] at h3
    exact h3
  obtain ⟨q, lc, hlv, hqb, hqw⟩ : ∃ q lc, v.lv = .slice (some ⟨q, 0, none⟩) f.loc.length lc ∧ sb + 1 ≤ q ∧ q < w.heap.size := by
    rcases hos.2 with ⟨_, e⟩ | ⟨q, lc, cur, e, e2, e3, _⟩
    · omega
    · exact ⟨q, lc, e, e2, lt_of_heap e3⟩
  have m2 : (w.alloc (.cells #[.bool x.ref, .int .i64 x.n] 44)).cell? ⟨sb, 2, none⟩ = some (.slice (some ⟨b, o, none⟩) p.ms.length mc) := by rw [cell_of h2.box]; rfl
  rw [hlv] at g2
  have H2 := Lib.hid h2
  have HLV := Lib.hid hlv
  have HU0 := Lib.hid hu0
  have HB0 := Lib.hid hb0
  have hmc : p.ms.length ≤ 9223372036854775807 := by
    obtain ⟨_, _, e, h1, h2, _⟩ := h.meths
    unfold maxLen at h2
    omega
  generalize p.ms.getD f.m default = m at q0 q1 q2 q3 hz1 hz2 hik hfit
  clear h h2 hu0 hb0 ht hl g1 g3 hos hlv
  have d0 : decide ((i : Int) < 0) = false := decide_eq_false (by omega)
  have d1 : decide (f.loc.length ≤ i) = false := decide_eq_false (by omega)
  have HKI := Lib.hid (fun W => kinds_any m (.slice ka m.code.length kc) W (by omega) (by omega))
  obtain ⟨ks, hks⟩ : ∃ ks, bs (kindsL m) = ks := ⟨_, rfl⟩
  have hik2 : i < ks.size := by rw [← hks]; exact hik
  have HFI : Hid (∀ W, Calls Tryz.prog 37 #[.agg #[.bool x.ref, .int .i64 x.n], .int .u8 (((ks[i]'hik2).toNat : Int))] W fun e w' => e = .returned (.bool true) ∧ Upd [] W w') := fun W => by
    have h1 := fits_any x ((((bs (kindsL m))[i]'hik).toNat : Int)) W
    rw [hfit] at h1
    subst hks
    exact h1
  have hiki : (i : Int) < (ks.size : Int) := by omega
  rw [hks] at HKI
  clear hks hik hfit
  go_enter Tryz.func15, Tryz.ntmps15
  go_upto_region 1 with fail
  generalize w.alloc (.cells #[.bool x.ref, .int .i64 x.n] 44) = w0 at HU0 HB0 HTP H2 g0 g2 q0 q1 q2 q3 m2 ⊢
  generalize hr : w.heap.size = r at HB0 hqw ⊢
  have HR := Lib.hid hr
  clear hr
  go_wp2_with fail
  refine HTP.out.mono ?_
  rintro e w1 ⟨rfl, hu⟩
  have hb1 := hu.heap HB0.out (by simp)
  have H1 := Lib.hid (H2.out.same hu)
  have HU := Lib.hid (HU0.out.trans hu)
  have c0 : w1.cell? ⟨r, 0, none⟩ = some (.bool x.ref) := by rw [cell_of hb1]; rfl
  have c1 : w1.cell? ⟨r, 1, none⟩ = some (.int .i64 x.n) := by rw [cell_of hb1]; rfl
  have HB1 := Lib.hid hb1
  have hF0 : w1.cell? ⟨r, 0, none⟩ = some (.bool x.ref) ∧ w1.cell? ⟨r, 1, none⟩ = some (.int .i64 x.n) ∧ w1.cell? ⟨g, fs.length * 4, none⟩ = some (.int .i64 f.m) ∧ w1.cell? ⟨g, fs.length * 4 + 2, none⟩ = some (.slice (some ⟨q, 0, none⟩) f.loc.length lc) ∧ w1.cell? ⟨sb, 2, none⟩ = some (.slice (some ⟨b, o, none⟩) p.ms.length mc) ∧ w1.cell? ⟨b, o + f.m * 4, none⟩ = some (.string m.params) ∧ w1.cell? ⟨b, o + f.m * 4 + 1, none⟩ = some (.string m.locals) ∧ w1.cell? ⟨b, o + f.m * 4 + 2, none⟩ = some (.string m.ret) ∧ w1.cell? ⟨b, o + f.m * 4 + 3, none⟩ = some (.slice ka m.code.length kc) :=
    ⟨c0, c1, hu.cell g0 (by simp), hu.cell g2 (by simp), hu.cell m2 (by simp), hu.cell q0 (by simp), hu.cell q1 (by simp), hu.cell q2 (by simp), hu.cell q3 (by simp)⟩
  have HKE : Hid (∀ W, Upd [] w1 W → W.cell? ⟨r, 0, none⟩ = some (.bool x.ref) ∧ W.cell? ⟨r, 1, none⟩ = some (.int .i64 x.n) ∧ W.cell? ⟨g, fs.length * 4, none⟩ = some (.int .i64 f.m) ∧ W.cell? ⟨g, fs.length * 4 + 2, none⟩ = some (.slice (some ⟨q, 0, none⟩) f.loc.length lc) ∧ W.cell? ⟨sb, 2, none⟩ = some (.slice (some ⟨b, o, none⟩) p.ms.length mc) ∧ W.cell? ⟨b, o + f.m * 4, none⟩ = some (.string m.params) ∧ W.cell? ⟨b, o + f.m * 4 + 1, none⟩ = some (.string m.locals) ∧ W.cell? ⟨b, o + f.m * 4 + 2, none⟩ = some (.string m.ret) ∧ W.cell? ⟨b, o + f.m * 4 + 3, none⟩ = some (.slice ka m.code.length kc)) := fun W hu =>
    ⟨hu.cell hF0.1 (by simp), hu.cell hF0.2.1 (by simp), hu.cell hF0.2.2.1 (by simp), hu.cell hF0.2.2.2.1 (by simp), hu.cell hF0.2.2.2.2.1 (by simp), hu.cell hF0.2.2.2.2.2.1 (by simp), hu.cell hF0.2.2.2.2.2.2.1 (by simp), hu.cell hF0.2.2.2.2.2.2.2.1 (by simp), hu.cell hF0.2.2.2.2.2.2.2.2 (by simp)⟩
  have HV0 := Lib.hid (Upd.refl [] w1)
  have HVd := Lib.hid (Upd.refl [] w1).drew
  have hm0 := hF0
  clear hu HTP H2 HB0 HU0 hb1 hF0 c0 c1 g0 g2 q0 q1 q2 q3 m2
  go_upto_region 2 with fail
  go_region_held3 (fun W => W.cell? ⟨r, 0, none⟩ = some (.bool x.ref) ∧ W.cell? ⟨r, 1, none⟩ = some (.int .i64 x.n) ∧ W.cell? ⟨g, fs.length * 4, none⟩ = some (.int .i64 f.m) ∧ W.cell? ⟨g, fs.length * 4 + 2, none⟩ = some (.slice (some ⟨q, 0, none⟩) f.loc.length lc) ∧ W.cell? ⟨sb, 2, none⟩ = some (.slice (some ⟨b, o, none⟩) p.ms.length mc) ∧ W.cell? ⟨b, o + f.m * 4, none⟩ = some (.string m.params) ∧ W.cell? ⟨b, o + f.m * 4 + 1, none⟩ = some (.string m.locals) ∧ W.cell? ⟨b, o + f.m * 4 + 2, none⟩ = some (.string m.ret) ∧ W.cell? ⟨b, o + f.m * 4 + 3, none⟩ = some (.slice ka m.code.length kc))
    (first | exact HKE.out _ HVB.out | exact HKE.out _ HVA.out | exact HKE.out _ HVd.out | exact HKE.out _ HV0.out)
    (first
      | (go_at_call 41; refine (HKI.out _).mono ?_; rintro e wA ⟨rfl, huA⟩; have HVA := Lib.hid (HVd.out.trans huA); clear huA)
      | (go_at_call 37; refine (HFI.out _).mono ?_; rintro e wB ⟨rfl, huB⟩; have HVB := Lib.hid (HVA.out.trans huB); clear huB))
  rename_i hheld
  clear hheld hm0
  have H3 := Lib.hid (H1.out.same HVB.out)
  have HU3 := Lib.hid (HU.out.trans HVB.out)
  obtain ⟨k0, k1, _, k3, _⟩ := HKE.out _ HVB.out
  have hl3 : vs.length = fs.length := by have := H3.out.frs.len; simpa using this
  have hos : OwnSl wB (sb + 1) (.slice (some ⟨q, 0, none⟩) f.loc.length lc) f.loc := by
    have h3 := H3.out.frs.loc fs.length (by simp)
    rw [getD_snoc_eq] at h3
    rw [show (vs ++ [v]).getD fs.length default = v by rw [← hl3]; exact getD_snoc_eq _ _ _, HLV.out] at h3
    exact h3
  obtain ⟨cur, hcur⟩ := hos.typed (b := q) rfl
  obtain ⟨q', hread, _⟩ := hos.read
  obtain ⟨z0, z1⟩ : wB.cell? ⟨q, i * 2, none⟩ = some (.bool (f.loc.getD i default).ref) ∧ wB.cell? ⟨q, i * 2 + 1, none⟩ = some (.int .i64 (f.loc.getD i default).n) := by
    rcases hread.1 with ⟨e, _⟩ | ⟨c9, e⟩
    · cases e
    · injection e with e
      injection e with e
      injection e with e
      subst e
      exact hread.2 i hi
  have fz0 := froz_of hcur (i * 2)
  have fz1 := froz_of hcur (i * 2 + 1)
  have HPL := Lib.hid (H3.out.frs.putL i x hi HLV.out)
  have hat := H3.out.at_
  have hst : Upd [q] wB ((wB.setCell ⟨q, i * 2, none⟩ (.bool x.ref)).setCell ⟨q, i * 2 + 1, none⟩ (.int .i64 x.n)) := ((Upd.refl [q] wB).setCell (.inl (by simp)) _).setCell (.inl (by simp)) _
  have HST : Hid (StkAt W0 ((wB.setCell ⟨q, i * 2, none⟩ (.bool x.ref)).setCell ⟨q, i * 2 + 1, none⟩ (.int .i64 x.n)) sb ib p ss n0 n cv (.slice (some ⟨b, o, none⟩) p.ms.length mc) limit words (.slice (some ⟨g, 0, none⟩) (fs.length + 1) c) (fs ++ [{ f with loc := f.loc.set i x }]) (vs ++ [v])) :=
    ⟨hst.heap H3.out.box (by simp; omega), HPL.out, H3.out.info.keep hst (fun z hz => by rw [List.mem_singleton] at hz; omega), H3.out.meths, hat⟩
  have HUF : Hid (Upd [q] w ((wB.setCell ⟨q, i * 2, none⟩ (.bool x.ref)).setCell ⟨q, i * 2 + 1, none⟩ (.int .i64 x.n))) := (HU3.out.mono (by simp)).trans hst
  have hsq : sb < q := by omega
  clear hcur hread hst hat hos hl3 HVA HVB HVd HV0 HKE HKI HFI hqb hqw
  have dk0 := (Upd.refl [] wB).drew.cell k0 (by simp)
  have dk1 := (Upd.refl [] wB).drew.cell k1 (by simp)
  have dk3 := (Upd.refl [] wB).drew.cell k3 (by simp)
  have dz0 := (Upd.refl [] wB).drew.cell z0 (by simp)
  have dz1 := (Upd.refl [] wB).drew.cell z1 (by simp)
  go_upto_region 4 with fail
  go_region
  all_goals
    go_wp2_with fail
    go_ret
    exact ⟨rfl, HST.out.same ((Upd.refl [] _).drew), q, by rw [HLV.out]; rfl, hsq, HUF.out.drew⟩
set_option maxRecDepth 100000 in
set_option maxHeartbeats 4000000 in
theorem ssetlocal_unfit (W0 w : World) (sb ib : Nat) (p : Prg) (ss : List Lk) (n0 n : Int) (cv mv : Value) (limit words : Int) (lv : Value) (fs : List Fr) (vs : List FrV) (f : Fr) (v : FrV) (i : Nat) (x : Slt) (h : StkAt W0 w sb ib p ss n0 n cv mv limit words lv (fs ++ [f]) (vs ++ [v])) (hf : f.m < p.ms.length) (hi : i < f.loc.length)
    (hz1 : (p.ms.getD f.m default).params.size ≤ 1000) (hz2 : (p.ms.getD f.m default).locals.size ≤ 1000) (hik : i < (bs (kindsL (p.ms.getD f.m default))).size) (hfit : fitsB x ((((bs (kindsL (p.ms.getD f.m default)))[i]'hik).toNat : Int)) = false) :
    Calls Tryz.prog 15 #[.pointer (some ⟨sb, 0, none⟩), .int .i64 i, .agg #[.bool x.ref, .int .i64 x.n]] w fun e w' => e = .returned (.bool false) ∧ Upd [] w w' := by
  have hl : vs.length = fs.length := by have := h.frs.len; simpa using this
  have hu0 := (Upd.refl [] w).alloc (.cells #[.bool x.ref, .int .i64 x.n] 44)
  have hb0 := heap_alloc_new w (.cells #[.bool x.ref, .int .i64 x.n] 44)
  have h2 := h.same hu0
  have HTP := Lib.hid (stop_any W0 _ sb ib p ss n0 n cv mv limit words lv _ _ h2)
  obtain ⟨g, c, rfl, ht, hg, g0, g1, g2, g3⟩ := top_at h2.frs hl
  rw [ht] at HTP
  obtain ⟨b, o, mc, ka, kc, rfl, q0, q1, q2, q3⟩ := h2.meth hf
  have hos : OwnSl w (sb + 1) v.lv f.loc := by
    have h3 := h.frs.loc fs.length (by simp)
    rw [getD_snoc_eq] at h3
    rw [show (vs ++ [v]).getD fs.length default = v by rw [← hl]; exact getD_snoc_eq _ _ _] at h3
    exact h3
  obtain ⟨q, lc, hlv, hqb, hqw⟩ : ∃ q lc, v.lv = .slice (some ⟨q, 0, none⟩) f.loc.length lc ∧ sb + 1 ≤ q ∧ q < w.heap.size := by
    rcases hos.2 with ⟨_, e⟩ | ⟨q, lc, cur, e, e2, e3, _⟩
    · omega
    · exact ⟨q, lc, e, e2, lt_of_heap e3⟩
  have m2 : (w.alloc (.cells #[.bool x.ref, .int .i64 x.n] 44)).cell? ⟨sb, 2, none⟩ = some (.slice (some ⟨b, o, none⟩) p.ms.length mc) := by rw [cell_of h2.box]; rfl
  rw [hlv] at g2
  have H2 := Lib.hid h2
  have HLV := Lib.hid hlv
  have HU0 := Lib.hid hu0
  have HB0 := Lib.hid hb0
  have hmc : p.ms.length ≤ 9223372036854775807 := by
    obtain ⟨_, _, e, h1, h2, _⟩ := h.meths
    unfold maxLen at h2
    omega
  generalize p.ms.getD f.m default = m at q0 q1 q2 q3 hz1 hz2 hik hfit
  clear h h2 hu0 hb0 ht hl g1 g3 hos hlv
  have d0 : decide ((i : Int) < 0) = false := decide_eq_false (by omega)
  have d1 : decide (f.loc.length ≤ i) = false := decide_eq_false (by omega)
  have HKI := Lib.hid (fun W => kinds_any m (.slice ka m.code.length kc) W (by omega) (by omega))
  obtain ⟨ks, hks⟩ : ∃ ks, bs (kindsL m) = ks := ⟨_, rfl⟩
  have hik2 : i < ks.size := by rw [← hks]; exact hik
  have HFI : Hid (∀ W, Calls Tryz.prog 37 #[.agg #[.bool x.ref, .int .i64 x.n], .int .u8 (((ks[i]'hik2).toNat : Int))] W fun e w' => e = .returned (.bool false) ∧ Upd [] W w') := fun W => by
    have h1 := fits_any x ((((bs (kindsL m))[i]'hik).toNat : Int)) W
    rw [hfit] at h1
    subst hks
    exact h1
  have hiki : (i : Int) < (ks.size : Int) := by omega
  rw [hks] at HKI
  clear hks hik hfit
  go_enter Tryz.func15, Tryz.ntmps15
  go_upto_region 1 with fail
  generalize w.alloc (.cells #[.bool x.ref, .int .i64 x.n] 44) = w0 at HU0 HB0 HTP H2 g0 g2 q0 q1 q2 q3 m2 ⊢
  generalize hr : w.heap.size = r at HB0 hqw ⊢
  have HR := Lib.hid hr
  clear hr
  go_wp2_with fail
  refine HTP.out.mono ?_
  rintro e w1 ⟨rfl, hu⟩
  have hb1 := hu.heap HB0.out (by simp)
  have H1 := Lib.hid (H2.out.same hu)
  have HU := Lib.hid (HU0.out.trans hu)
  have c0 : w1.cell? ⟨r, 0, none⟩ = some (.bool x.ref) := by rw [cell_of hb1]; rfl
  have c1 : w1.cell? ⟨r, 1, none⟩ = some (.int .i64 x.n) := by rw [cell_of hb1]; rfl
  have HB1 := Lib.hid hb1
  have hF0 : w1.cell? ⟨r, 0, none⟩ = some (.bool x.ref) ∧ w1.cell? ⟨r, 1, none⟩ = some (.int .i64 x.n) ∧ w1.cell? ⟨g, fs.length * 4, none⟩ = some (.int .i64 f.m) ∧ w1.cell? ⟨g, fs.length * 4 + 2, none⟩ = some (.slice (some ⟨q, 0, none⟩) f.loc.length lc) ∧ w1.cell? ⟨sb, 2, none⟩ = some (.slice (some ⟨b, o, none⟩) p.ms.length mc) ∧ w1.cell? ⟨b, o + f.m * 4, none⟩ = some (.string m.params) ∧ w1.cell? ⟨b, o + f.m * 4 + 1, none⟩ = some (.string m.locals) ∧ w1.cell? ⟨b, o + f.m * 4 + 2, none⟩ = some (.string m.ret) ∧ w1.cell? ⟨b, o + f.m * 4 + 3, none⟩ = some (.slice ka m.code.length kc) :=
    ⟨c0, c1, hu.cell g0 (by simp), hu.cell g2 (by simp), hu.cell m2 (by simp), hu.cell q0 (by simp), hu.cell q1 (by simp), hu.cell q2 (by simp), hu.cell q3 (by simp)⟩
  have HKE : Hid (∀ W, Upd [] w1 W → W.cell? ⟨r, 0, none⟩ = some (.bool x.ref) ∧ W.cell? ⟨r, 1, none⟩ = some (.int .i64 x.n) ∧ W.cell? ⟨g, fs.length * 4, none⟩ = some (.int .i64 f.m) ∧ W.cell? ⟨g, fs.length * 4 + 2, none⟩ = some (.slice (some ⟨q, 0, none⟩) f.loc.length lc) ∧ W.cell? ⟨sb, 2, none⟩ = some (.slice (some ⟨b, o, none⟩) p.ms.length mc) ∧ W.cell? ⟨b, o + f.m * 4, none⟩ = some (.string m.params) ∧ W.cell? ⟨b, o + f.m * 4 + 1, none⟩ = some (.string m.locals) ∧ W.cell? ⟨b, o + f.m * 4 + 2, none⟩ = some (.string m.ret) ∧ W.cell? ⟨b, o + f.m * 4 + 3, none⟩ = some (.slice ka m.code.length kc)) := fun W hu =>
    ⟨hu.cell hF0.1 (by simp), hu.cell hF0.2.1 (by simp), hu.cell hF0.2.2.1 (by simp), hu.cell hF0.2.2.2.1 (by simp), hu.cell hF0.2.2.2.2.1 (by simp), hu.cell hF0.2.2.2.2.2.1 (by simp), hu.cell hF0.2.2.2.2.2.2.1 (by simp), hu.cell hF0.2.2.2.2.2.2.2.1 (by simp), hu.cell hF0.2.2.2.2.2.2.2.2 (by simp)⟩
  have HV0 := Lib.hid (Upd.refl [] w1)
  have HVd := Lib.hid (Upd.refl [] w1).drew
  have hm0 := hF0
  clear hu HTP H2 HB0 HU0 hb1 hF0 c0 c1 g0 g2 q0 q1 q2 q3 m2
  go_upto_region 2 with fail
  go_region_held3 (fun W => W.cell? ⟨r, 0, none⟩ = some (.bool x.ref) ∧ W.cell? ⟨r, 1, none⟩ = some (.int .i64 x.n) ∧ W.cell? ⟨g, fs.length * 4, none⟩ = some (.int .i64 f.m) ∧ W.cell? ⟨g, fs.length * 4 + 2, none⟩ = some (.slice (some ⟨q, 0, none⟩) f.loc.length lc) ∧ W.cell? ⟨sb, 2, none⟩ = some (.slice (some ⟨b, o, none⟩) p.ms.length mc) ∧ W.cell? ⟨b, o + f.m * 4, none⟩ = some (.string m.params) ∧ W.cell? ⟨b, o + f.m * 4 + 1, none⟩ = some (.string m.locals) ∧ W.cell? ⟨b, o + f.m * 4 + 2, none⟩ = some (.string m.ret) ∧ W.cell? ⟨b, o + f.m * 4 + 3, none⟩ = some (.slice ka m.code.length kc))
    (first | exact HKE.out _ HVB.out | exact HKE.out _ HVA.out | exact HKE.out _ HVd.out | exact HKE.out _ HV0.out)
    (first
      | (go_at_call 41; refine (HKI.out _).mono ?_; rintro e wA ⟨rfl, huA⟩; have HVA := Lib.hid (HVd.out.trans huA); clear huA)
      | (go_at_call 37; refine (HFI.out _).mono ?_; rintro e wB ⟨rfl, huB⟩; have HVB := Lib.hid (HVA.out.trans huB); clear huB))
  rename_i hheld
  clear hheld hm0
  have HU3 := Lib.hid (HU.out.trans HVB.out)
  clear HVA HVB HVd HV0 HKE HKI HFI
  go_wp2_with fail
  go_ret
  exact ⟨rfl, HU3.out⟩

set_option maxRecDepth 100000 in
set_option maxHeartbeats 1000000 in
theorem ssetlocal_none (W0 w : World) (sb ib : Nat) (p : Prg) (ss : List Lk) (n0 n : Int) (cv mv : Value) (limit words : Int) (lv : Value) (vs : List FrV) (i : Int) (x : Slt) (h : StkAt W0 w sb ib p ss n0 n cv mv limit words lv [] vs) :
    Calls Tryz.prog 15 #[.pointer (some ⟨sb, 0, none⟩), .int .i64 i, .agg #[.bool x.ref, .int .i64 x.n]] w fun e w' => e = .returned (.bool false) ∧ Upd [] w w' := by
  have hu0 := (Upd.refl [] w).alloc (.cells #[.bool x.ref, .int .i64 x.n] 44)
  have h2 := h.same hu0
  have HTP := Lib.hid (stop_any W0 _ sb ib p ss n0 n cv mv limit words lv [] vs h2)
  rw [topP_none h2.frs] at HTP
  have HU0 := Lib.hid hu0
  clear h h2 hu0
  go_enter Tryz.func15, Tryz.ntmps15
  go_upto_region 1 with fail
  generalize w.alloc (.cells #[.bool x.ref, .int .i64 x.n] 44) = w0 at HU0 HTP ⊢
  go_wp2_with fail
  refine HTP.out.mono ?_
  rintro e w1 ⟨rfl, hu⟩
  have HU := Lib.hid (HU0.out.trans hu)
  clear hu HTP HU0
  go_upto_region 2 with fail
  go_quiet (fail)
  go_wp2_with fail
  go_ret
  exact ⟨rfl, HU.out.trans ((Upd.refl [] w1).drewN nq)⟩

set_option maxRecDepth 100000 in
set_option maxHeartbeats 2000000 in
theorem ssetlocal_out (W0 w : World) (sb ib : Nat) (p : Prg) (ss : List Lk) (n0 n : Int) (cv mv : Value) (limit words : Int) (lv : Value) (fs : List Fr) (vs : List FrV) (f : Fr) (v : FrV) (i : Int) (x : Slt) (h : StkAt W0 w sb ib p ss n0 n cv mv limit words lv (fs ++ [f]) (vs ++ [v])) (hi : ¬ (0 ≤ i ∧ i < (f.loc.length : Int))) :
    Calls Tryz.prog 15 #[.pointer (some ⟨sb, 0, none⟩), .int .i64 i, .agg #[.bool x.ref, .int .i64 x.n]] w fun e w' => e = .returned (.bool false) ∧ Upd [] w w' := by
  have hl : vs.length = fs.length := by have := h.frs.len; simpa using this
  have hu0 := (Upd.refl [] w).alloc (.cells #[.bool x.ref, .int .i64 x.n] 44)
  have h2 := h.same hu0
  have HTP := Lib.hid (stop_any W0 _ sb ib p ss n0 n cv mv limit words lv _ _ h2)
  obtain ⟨g, c, rfl, ht, hg, g0, g1, g2, g3⟩ := top_at h2.frs hl
  rw [ht] at HTP
  have hos : OwnSl w (sb + 1) v.lv f.loc := by
    have h3 := h.frs.loc fs.length (by simp)
    rw [getD_snoc_eq] at h3
    rw [show (vs ++ [v]).getD fs.length default = v by rw [← hl]; exact getD_snoc_eq _ _ _] at h3
    exact h3
  obtain ⟨lp, lc, hlv⟩ := hos.shape
  rw [hlv] at g2
  have HU0 := Lib.hid hu0
  clear h h2 hu0 ht hl g0 g1 g3 hos hlv
  have hor : decide (i < 0) = true ∨ (decide (i < 0) = false ∧ decide ((f.loc.length : Int) ≤ i) = true) := by
    by_cases h0 : i < 0
    · exact .inl (decide_eq_true h0)
    · exact .inr ⟨decide_eq_false h0, decide_eq_true (by omega)⟩
  clear hi
  go_enter Tryz.func15, Tryz.ntmps15
  go_upto_region 1 with fail
  generalize w.alloc (.cells #[.bool x.ref, .int .i64 x.n] 44) = w0 at HU0 HTP g2 ⊢
  go_wp2_with fail
  refine HTP.out.mono ?_
  rintro e w1 ⟨rfl, hu⟩
  have g2 := hu.cell g2 (by simp)
  have HU := Lib.hid (HU0.out.trans hu)
  clear hu HTP HU0
  rcases hor with d0 | ⟨d0, d1⟩
  · go_upto_region 2 with fail
    go_quiet (fail)
    go_wp2_with fail
    go_ret
    exact ⟨rfl, HU.out.trans ((Upd.refl [] w1).drewN nq)⟩
  · go_upto_region 2 with fail
    go_quiet (fail)
    go_wp2_with fail
    go_ret
    exact ⟨rfl, HU.out.trans ((Upd.refl [] w1).drewN nq)⟩
end Go.Proofs.YtopojeanbpokaaaGreatDoor
