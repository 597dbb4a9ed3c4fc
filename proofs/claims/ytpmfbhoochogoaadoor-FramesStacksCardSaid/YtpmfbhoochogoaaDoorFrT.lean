/- A stack of frames: Take. -/
import Derived.Test.YtpmfbhoochogoaaDoorFrA
/-! A stack of frames: Take. -/
namespace Go.Proofs.YtpmfbhoochogoaaDoor
open Go.RowKit

theorem FrsAt.turn3 {w : World} {B g c : Nat} {fs : List Fr} {vs : List FrV} {f : Fr} {v : FrV} (sv' : Value) (st' : List Slt) (h : FrsAt w B (.slice (some ⟨g, 0, none⟩) (fs.length + 1) c) (fs ++ [f]) (vs ++ [v])) (hob : sv'.ownBlock = v.sv.ownBlock) (hst : OwnSl w B sv' st') :
    FrsAt (w.setCell ⟨g, fs.length * 4 + 3, none⟩ sv') B (.slice (some ⟨g, 0, none⟩) (fs.length + 1) c) (fs ++ [{ f with stk := st' }]) (vs ++ [⟨v.lv, sv'⟩]) := by
  have hl : vs.length = fs.length := by have := h.len; simpa using this
  have hlen : (fs ++ [f]).length = fs.length + 1 := by simp
  have hu : Upd [g] w (w.setCell ⟨g, fs.length * 4 + 3, none⟩ sv') := (Upd.refl [g] w).setCell (.inl (by simp)) _
  have hrow := h.row
  rw [hlen] at hrow
  have vlast : (vs ++ [v]).getD fs.length default = v := by rw [← hl]; exact getD_snoc_eq _ _ _
  have vlast2 : (vs ++ [(⟨v.lv, sv'⟩ : FrV)]).getD fs.length default = ⟨v.lv, sv'⟩ := by rw [← hl]; exact getD_snoc_eq _ _ _
  have vi : ∀ {i}, i < fs.length → (vs ++ [(⟨v.lv, sv'⟩ : FrV)]).getD i default = (vs ++ [v]).getD i default := fun hi => by rw [getD_snoc_lt _ _ _ _ (by omega), getD_snoc_lt _ _ _ _ (by omega)]
  have fi : ∀ {i}, i < fs.length → (fs ++ [({ f with stk := st' } : Fr)]).getD i default = (fs ++ [f]).getD i default := fun hi => by rw [getD_snoc_lt _ _ _ _ hi, getD_snoc_lt _ _ _ _ hi]
  have flast : (fs ++ [f]).getD fs.length default = f := getD_snoc_eq _ _ _
  have flast2 : (fs ++ [({ f with stk := st' } : Fr)]).getD fs.length default = { f with stk := st' } := getD_snoc_eq _ _ _
  have own : ∀ i, i < fs.length + 1 → ((vs ++ [(⟨v.lv, sv'⟩ : FrV)]).getD i default).lv.ownBlock = ((vs ++ [v]).getD i default).lv.ownBlock ∧ ((vs ++ [(⟨v.lv, sv'⟩ : FrV)]).getD i default).sv.ownBlock = ((vs ++ [v]).getD i default).sv.ownBlock := fun i hi => by
    by_cases e : i < fs.length
    · rw [vi e]; exact ⟨rfl, rfl⟩
    · have e2 : i = fs.length := by omega
      subst e2
      rw [vlast, vlast2]
      exact ⟨rfl, hob⟩
  have hng : ∀ i, i < fs.length + 1 → ¬ ((vs ++ [v]).getD i default).has g := fun i hi => h.own_ne (by rw [hlen]; exact hi)
  have keep : ∀ {u : Value} {xs : List Slt}, OwnSl w B u xs → u.ownBlock ≠ some g → OwnSl (w.setCell ⟨g, fs.length * 4 + 3, none⟩ sv') B u xs := fun ho hne => ho.upd hu (fun k hk hm => hne (by rw [List.mem_singleton] at hm; rw [← hm]; exact hk))
  refine ⟨?_, by simp [hl], fun i hi => ?_, fun i hi => ?_, fun i hi b hb => ?_, fun i j hi hj hij b hb hb2 => ?_⟩
  · have hlen2 : (fs ++ [({ f with stk := st' } : Fr)]).length = fs.length + 1 := by simp
    rw [hlen2]
    exact frow_set hl hrow 3 (by omega) _ rfl
  · have hi : i < fs.length + 1 := by simpa using hi
    have h1 := h.loc i (by rw [hlen]; exact hi)
    have h2 := hng i hi
    by_cases e : i < fs.length
    · rw [vi e, fi e]
      exact keep h1 (fun hb => h2 (.inl hb))
    · have e2 : i = fs.length := by omega
      subst e2
      rw [vlast] at h1 h2
      rw [flast] at h1
      rw [vlast2, flast2]
      exact keep h1 (fun hb => h2 (.inl hb))
  · have hi : i < fs.length + 1 := by simpa using hi
    have h1 := h.stk i (by rw [hlen]; exact hi)
    have h2 := hng i hi
    by_cases e : i < fs.length
    · rw [vi e, fi e]
      exact keep h1 (fun hb => h2 (.inr hb))
    · have e2 : i = fs.length := by omega
      subst e2
      rw [vlast] at h2
      rw [vlast2, flast2]
      exact keep hst (fun hb => h2 (.inr (hob.symm.trans hb)))
  · have hi : i < fs.length + 1 := by simpa using hi
    rw [(own i hi).1] at hb
    rw [(own i hi).2]
    exact h.two i (by rw [hlen]; exact hi) b hb
  · have hi : i < fs.length + 1 := by simpa using hi
    have hj : j < fs.length + 1 := by simpa using hj
    have k1 : ((vs ++ [v]).getD i default).has b := by
      rcases hb with hb | hb
      · exact .inl (by rw [← (own i hi).1]; exact hb)
      · exact .inr (by rw [← (own i hi).2]; exact hb)
    have k2 : ((vs ++ [v]).getD j default).has b := by
      rcases hb2 with hb | hb
      · exact .inl (by rw [← (own j hj).1]; exact hb)
      · exact .inr (by rw [← (own j hj).2]; exact hb)
    exact h.apart i j (by rw [hlen]; exact hi) (by rw [hlen]; exact hj) hij b k1 k2
theorem has_turn {vs : List FrV} {v : FrV} {sv' : Value} (hob : sv'.ownBlock = v.sv.ownBlock) (i b : Nat) (h : ((vs ++ [(⟨v.lv, sv'⟩ : FrV)]).getD i default).has b) : ((vs ++ [v]).getD i default).has b := by
  by_cases e : i < vs.length
  · rw [getD_snoc_lt _ _ _ _ e] at h ⊢
    exact h
  · by_cases e2 : i = vs.length
    · subst e2
      rw [getD_snoc_eq] at h ⊢
      rcases h with h | h
      · exact .inl h
      · exact .inr (hob.symm.trans h)
    · rw [List.getD_eq_getElem?_getD, List.getElem?_eq_none (by simp; omega)] at h ⊢
      exact h
theorem FrsAt.updN {w w' : World} {B r : Nat} {lv : Value} {fs : List Fr} {vs : List FrV} (h : FrsAt w B lv fs vs) (hu : Upd [r] w w') (h1 : lv.ownBlock ≠ some r) (h2 : ∀ i, i < fs.length → ¬ (vs.getD i default).has r) : FrsAt w' B lv fs vs := by
  have off : ∀ {v : Value}, v.ownBlock ≠ some r → ∀ k, v.ownBlock = some k → k ∉ [r] := fun hne k hk hm => hne (by rw [List.mem_singleton] at hm; rw [← hm]; exact hk)
  exact ⟨row_upd h.row hu (off h1), h.len, fun i hi => (h.loc i hi).upd hu (off (fun hb => h2 i hi (.inl hb))), fun i hi => (h.stk i hi).upd hu (off (fun hb => h2 i hi (.inr hb))), h.two, h.apart⟩
theorem FrsAt.has_lt {w : World} {B : Nat} {lv : Value} {fs : List Fr} {vs : List FrV} (h : FrsAt w B lv fs vs) {i b : Nat} (hi : i < fs.length) (hb : (vs.getD i default).has b) : b < w.heap.size := by
  rcases hb with hb | hb
  · exact (World.ownsRow.lt (h.loc i hi) b hb).2
  · exact (World.ownsRow.lt (h.stk i hi) b hb).2
/-- A row's last slot is let go. -/
theorem OwnSl.cut {w : World} {B q sc : Nat} {ys : List Slt} {x : Slt} (h : OwnSl w B (.slice (some ⟨q, 0, none⟩) (ys.length + 1) sc) (ys ++ [x])) : OwnSl w B (.slice (some ⟨q, 0, none⟩) ys.length sc) ys := by
  unfold OwnSl at h ⊢
  obtain ⟨h0, h1⟩ := h
  refine ⟨by rw [slcells_len], ?_⟩
  rcases h1 with ⟨h1, _⟩ | ⟨g1, c1, cur, h1, h2, h3, h4, h5, h6, h7⟩
  · cases h1
  · injection h1 with e1 _ e3
    injection e1 with e1
    injection e1 with e1
    subst e1 e3
    have e1 : (ys ++ [x]).length * 2 = ys.length * 2 + 2 := by simp; omega
    refine .inr ⟨q, sc, cur, rfl, h2, h3, by simp at h4; omega, h5, h6, ?_⟩
    have h8 := congrArg (List.take (ys.length * 2)) h7
    rw [List.take_take, Nat.min_eq_left (by rw [e1]; omega), slcells_app, List.take_append_of_le_length (by rw [slcells_len]; exact Nat.le_refl _)] at h8
    rw [h8, List.take_of_length_le (by rw [slcells_len]; exact Nat.le_refl _)]
theorem cut_sl (w : World) (g len c q : Nat) (h : q ≤ c) : (Instr.slice 61 (.slice (some ⟨g, 0, none⟩) len c) none (some (.int .i64 (q : Int))) none).run Tryd.prog w = .ok (.slice (some ⟨g, 0, none⟩) q c) w := by
  have hsz : (sizeOf 58).run Tryd.prog w = .ok 2 w := by kernel_rfl
  have he : Tryd.prog.elem 61 = 58 := by kernel_rfl
  rw [run_slice_h w 61 _ _ _ (by rw [he]; exact Tryd.underlying61) .i64 (q : Int) (by omega) (by omega), he, hsz]
  simp [Result.andThen, sliced, Addr.add]
theorem OwnSl.last {w : World} {B : Nat} {v : Value} {ys : List Slt} {x : Slt} (h : OwnSl w B v (ys ++ [x])) : ∃ q sc, v = .slice (some ⟨q, 0, none⟩) (ys.length + 1) sc ∧ ys.length + 1 ≤ sc ∧ w.cell? ⟨q, ys.length * 2, none⟩ = some (.bool x.ref) ∧ w.cell? ⟨q, ys.length * 2 + 1, none⟩ = some (.int .i64 x.n) := by
  have hlen : (ys ++ [x]).length = ys.length + 1 := by simp
  obtain ⟨b, hr, _⟩ := h.read
  obtain ⟨h1, h2⟩ := hr.2 ys.length (by rw [hlen]; omega)
  have hx : (ys ++ [x]).getD ys.length default = x := getD_snoc_eq _ _ _
  rw [hx] at h1 h2
  rcases h.2 with ⟨_, e⟩ | ⟨g, c, cur, e, _, _, e4, _⟩
  · rw [hlen] at e
    omega
  · rw [hlen] at e e4
    rcases hr.1 with ⟨e5, _⟩ | ⟨c2, e5⟩
    · rw [e] at e5; cases e5
    · rw [e] at e5
      injection e5 with e6 _ e7
      injection e6 with e6
      injection e6 with e6
      subst e6
      exact ⟨g, c, e, by omega, h1, h2⟩

set_option maxRecDepth 100000 in
set_option maxHeartbeats 4000000 in
theorem stake_any (W0 w : World) (sb ib : Nat) (p : Prg) (ss : List Lk) (n0 n : Int) (cv mv : Value) (limit words : Int) (lv : Value) (fs : List Fr) (vs : List FrV) (f : Fr) (v : FrV) (ys : List Slt) (x : Slt) (h : StkAt W0 w sb ib p ss n0 n cv mv limit words lv (fs ++ [f]) (vs ++ [v])) (hf : f.stk = ys ++ [x]) (hy : ys.length ≤ 100000) :
    Calls Tryd.prog 20 #[.pointer (some ⟨sb, 0, none⟩)] w fun e w' => e = .returned (.tuple #[.agg #[.bool x.ref, .int .i64 x.n], .bool true]) ∧ ∃ sv' g, StkAt W0 w' sb ib p ss n0 n cv mv limit words lv (fs ++ [{ f with stk := ys }]) (vs ++ [⟨v.lv, sv'⟩]) ∧ sb < g ∧ Upd [g] w w' := by
  have hl : vs.length = fs.length := by have := h.frs.len; simpa using this
  have HNO : Hid ((∀ i, i < (fs ++ [f]).length → ¬ ((vs ++ [v]).getD i default).has w.heap.size) ∧ ∀ b, lv.ownBlock = some b → b < w.heap.size) :=
    ⟨fun i hi hb => by have := h.frs.has_lt hi hb; omega, fun b hb => (World.ownsRow.lt h.frs.row b hb).2⟩
  have hu0 := (Upd.refl [] w).alloc (.cells #[.bool false, .int .i64 0] 58)
  have hb0 := heap_alloc_new w (.cells #[.bool false, .int .i64 0] 58)
  have h2 := h.same hu0
  have HTP := Lib.hid (stop_any W0 _ sb ib p ss n0 n cv mv limit words lv _ _ h2)
  obtain ⟨g, c, rfl, ht, hg, g0, g1, g2, g3⟩ := top_at h2.frs hl
  rw [ht] at HTP
  have H2 := Lib.hid h2
  have hos : OwnSl (w.alloc (.cells #[.bool false, .int .i64 0] 58)) (sb + 1) v.sv (ys ++ [x]) := by
    have h3 := h2.frs.stk fs.length (by simp)
    rw [getD_snoc_eq] at h3
    rw [show (vs ++ [v]).getD fs.length default = v by rw [← hl]; exact getD_snoc_eq _ _ _] at h3
    rwa [hf] at h3
  obtain ⟨lvv, svv⟩ := v
  simp only at g2 g3 hos
  obtain ⟨q, sc, rfl, hsc, x0, x1⟩ := hos.last
  have HU0 := Lib.hid hu0
  have HB0 := Lib.hid hb0
  have HOS := Lib.hid hos
  have HFS := Lib.hid hf
  have hcut : ∀ W, (Instr.slice 61 (.slice (some ⟨q, 0, none⟩) (ys.length + 1) sc) none (some (.int .i64 (ys.length : Int))) none).run Tryd.prog W = .ok (.slice (some ⟨q, 0, none⟩) ys.length sc) W := fun W => cut_sl W q _ sc ys.length (by omega)
  clear h h2 hu0 hb0 ht hl g0 g1 g2 hos hf
  have e0 : (((ys.length + 1 : Nat) : Int) == 0) = false := by rw [beq_eq_false_iff_ne]; omega
  have e1 : (((ys.length : Int) + 1) == 0) = false := by rw [beq_eq_false_iff_ne]; omega
  have s1 : IntKind.i64.wrap (((ys.length + 1 : Nat) : Int) - 1) = (ys.length : Int) := by rw [IntWalk.i64_in _ (by omega)]; omega
  have s2 : IntKind.i64.wrap (((ys.length : Int) + 1) - 1) = (ys.length : Int) := by rw [IntWalk.i64_in _ (by omega)]; omega
  go_enter Tryd.func20, Tryd.ntmps20
  go_upto_region 1 with fail
  generalize w.alloc (.cells #[.bool false, .int .i64 0] 58) = w0 at HU0 HB0 HTP HOS H2 g3 x0 x1 ⊢
  go_wp2_with fail
  refine HTP.out.mono ?_
  rintro e w1 ⟨rfl, hu⟩
  have hb1 := hu.heap HB0.out (by simp)
  have H1 := Lib.hid (H2.out.same hu)
  have HOS1 := Lib.hid (HOS.out.upd hu (by simp))
  have g3 := hu.cell g3 (by simp)
  have x0 := hu.cell x0 (by simp)
  have x1 := hu.cell x1 (by simp)
  have HU := Lib.hid (HU0.out.trans hu)
  have HB1 := Lib.hid hb1
  clear hu HTP H2 HOS HB0 HU0 hb1
  have s3 : IntKind.i64.wrap (ys.length : Int) = (ys.length : Int) := IntWalk.i64_in _ (by omega)
  have hdr := (Upd.refl [] w1).drew
  have hal := hdr.alloc (.cells #[.bool false, .int .i64 0] 58)
  have hla := (Upd.refl [] w1).alloc (.cells #[.bool false, .int .i64 0] 58)
  have hld := hla.drew
  have dg3 := hdr.cell g3 (by simp)
  have dx0 := hdr.cell x0 (by simp)
  have dx1 := hdr.cell x1 (by simp)
  have ag3 := hal.cell g3 (by simp)
  have ax0 := hal.cell x0 (by simp)
  have ax1 := hal.cell x1 (by simp)
  have bg3 := hla.cell g3 (by simp)
  have bx0 := hla.cell x0 (by simp)
  have bx1 := hla.cell x1 (by simp)
  have lg3 := hld.cell g3 (by simp)
  have lx0 := hld.cell x0 (by simp)
  have lx1 := hld.cell x1 (by simp)
  clear hdr hal hla hld
  go_upto_region 4 with fail
  go_region
  have hu2 := ((Upd.refl [] w1).alloc (.cells #[.bool x.ref, .int .i64 x.n] 58)).drew
  have hb5 := (Upd.refl [] _).drew.heap (heap_alloc_new w1 (.cells #[.bool x.ref, .int .i64 x.n] 58)) (by simp)
  have H3 := Lib.hid (H1.out.same hu2)
  have HOS3 := Lib.hid (HOS1.out.upd hu2 (by simp))
  have HU3 := Lib.hid (HU.out.trans hu2)
  have HB3 := Lib.hid (hu2.heap HB1.out (by simp))
  have HB5 := Lib.hid hb5
  have g3 := hu2.cell g3 (by simp)
  have HZ1 : Hid (w.heap.size < w1.heap.size) := lt_of_heap HB1.out
  clear dg3 dx0 dx1 ag3 ax0 ax1 bg3 bx0 bx1 lg3 lx0 lx1 x0 x1 hu2 hb5 H1 HOS1 HU HB1
  go_upto_region 5 with fail
  generalize (w1.alloc (.cells #[.bool x.ref, .int .i64 x.n] 58)).drew = w2 at H3 HOS3 HU3 HB3 HB5 g3 ⊢
  generalize w1.heap.size = b5 at HB5 HZ1 ⊢
  generalize hr : w.heap.size = r at HB3 HZ1 ⊢
  have HR := Lib.hid hr
  clear hr
  obtain ⟨cur, hcur⟩ : ∃ cur, w2.heap[g]? = some (.cells cur 108) := by
    rcases H3.out.frs.row.2 with ⟨h1, _⟩ | ⟨g4, c4, cur, h1, h2, h3, _⟩
    · cases h1
    · injection h1 with e1
      injection e1 with e1
      injection e1 with e1
      subst e1
      exact ⟨cur, h3⟩
  have hfr := H3.out.frs.turn3 (.slice (some ⟨q, 0, none⟩) ys.length sc) ys rfl (HOS3.out.cut)
  have HFR := Lib.hid hfr
  have HCU := Lib.hid hcur
  have dg3 := (Upd.refl [] w2).drew.cell g3 (by simp)
  have dcur := (Upd.refl [] w2).drew.heap hcur (by simp)
  have fg := froz_of hcur (fs.length * 4 + 3)
  have fd := froz_of dcur (fs.length * 4 + 3)
  clear hfr hcur dcur
  go_region
  have hs3 : Upd [g] w2 (w2.setCell ⟨g, fs.length * 4 + 3, none⟩ (.slice (some ⟨q, 0, none⟩) ys.length sc)).drew := ((Upd.refl [g] w2).setCell (.inl (by simp)) _).drew
  have hg5 : b5 ≠ g := heap_ne HB5.out HCU.out (by decide)
  have hgr : r ≠ g := heap_ne HB3.out HCU.out (by decide)
  have hb5 := hs3.heap HB5.out (by simpa using hg5)
  have hb3 := hs3.heap HB3.out (by simpa using hgr)
  have hat := H3.out.at_
  have HST : Hid (StkAt W0 (w2.setCell ⟨g, fs.length * 4 + 3, none⟩ (.slice (some ⟨q, 0, none⟩) ys.length sc)).drew sb ib p ss n0 n cv mv limit words (.slice (some ⟨g, 0, none⟩) (fs.length + 1) c) (fs ++ [{ f with stk := ys }]) (vs ++ [⟨lvv, .slice (some ⟨q, 0, none⟩) ys.length sc⟩])) :=
    ⟨hs3.heap H3.out.box (by simp; omega), HFR.out.upd ((Upd.refl [] _).drew) (by simp), H3.out.info.keep hs3 (fun z hz => by rw [List.mem_singleton] at hz; omega), H3.out.meths, hat⟩
  generalize (w2.setCell ⟨g, fs.length * 4 + 3, none⟩ (.slice (some ⟨q, 0, none⟩) ys.length sc)).drew = w3 at hs3 hb5 hb3 HST ⊢
  have y0 : w3.cell? ⟨b5, 0, none⟩ = some (.bool x.ref) := by rw [cell_of hb5]; rfl
  have y1 : w3.cell? ⟨b5, 1, none⟩ = some (.int .i64 x.n) := by rw [cell_of hb5]; rfl
  have z0 : w3.cell? ⟨r, 0, none⟩ = some (.bool false) := by rw [cell_of hb3]; rfl
  have z1 : w3.cell? ⟨r, 1, none⟩ = some (.int .i64 0) := by rw [cell_of hb3]; rfl
  have f0 := froz_of hb3 0
  have f1 := froz_of hb3 1
  have k2 := heap_setCell (heap_setCell hb3 0 (.bool x.ref)) 1 (.int .i64 x.n)
  have d0 := cell_of k2 0
  have d1 := cell_of k2 1
  simp at d0 d1
  have hst4 : Upd [r] w3 ((w3.setCell ⟨r, 0, none⟩ (.bool x.ref)).setCell ⟨r, 1, none⟩ (.int .i64 x.n)) := ((Upd.refl [r] w3).setCell (.inl (by simp)) _).setCell (.inl (by simp)) _
  have hrs : r ≠ sb := heap_ne hb3 HST.out.box (by decide)
  have hno := HNO.out
  rw [HR.out] at hno
  have hlen : (fs ++ [({ f with stk := ys } : Fr)]).length = (fs ++ [f]).length := by simp
  have hfr4 := HST.out.frs.updN hst4 (fun e => by have := hno.2 _ e; omega) (fun i hi hb => hno.1 i (by rw [← hlen]; exact hi) (has_turn (v := ⟨lvv, .slice (some ⟨q, 0, none⟩) (ys.length + 1) sc⟩) (sv' := .slice (some ⟨q, 0, none⟩) ys.length sc) rfl i r hb))
  have hw0 : sb < r := by
    have := HR.out
    have h9 := HNO.out.2 g rfl
    omega
  have HF4 : Hid (StkAt W0 ((w3.setCell ⟨r, 0, none⟩ (.bool x.ref)).setCell ⟨r, 1, none⟩ (.int .i64 x.n)) sb ib p ss n0 n cv mv limit words (.slice (some ⟨g, 0, none⟩) (fs.length + 1) c) (fs ++ [{ f with stk := ys }]) (vs ++ [⟨lvv, .slice (some ⟨q, 0, none⟩) ys.length sc⟩])) :=
    ⟨hst4.heap HST.out.box (by simp; omega), hfr4, HST.out.info.keep hst4 (fun z hz => by rw [List.mem_singleton] at hz; omega), HST.out.meths, hat⟩
  have HUF : Hid (Upd [g] w ((w3.setCell ⟨r, 0, none⟩ (.bool x.ref)).setCell ⟨r, 1, none⟩ (.int .i64 x.n))) := ((HU3.out.mono (by simp)).trans hs3).trans' hst4 (fun z hz hl => by rw [List.mem_singleton] at hz; have := HR.out; omega)
  have hsg : sb < g := by omega
  clear k2 hno hlen hfr4 hst4 hb5 hb3 hs3 hat
  go_wp2_with fail
  refine bodyPost_ret (v := .tuple #[.agg #[.bool x.ref, .int .i64 x.n], .bool true]) (by simp [results, Tryd.results20, go_sem, d0, d1]) rfl ?_
  exact ⟨rfl, ⟨_, HF4.out⟩, g, hsg, HUF.out⟩
end Go.Proofs.YtpmfbhoochogoaaDoor
