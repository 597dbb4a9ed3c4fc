/- model: Machine.Frames. Two rows of long integers compared. overdriveref.SameOutcome. -/
import Derived.Test.YtojobkhidlfeoaaDoorMwS
import Derived.Test.YtojobkhidlfeoaaDoorHeldL
import Derived.Test.YtojobkhidlfeoaaDoorRows
import Derived.Test.YtojobkhidlfeoaaDoorInts
import Derived.Deep.QuietTactic
import Derived.BigQuiet
import Derived.StillTailTactics
/-! model: Machine.Frames. -/
namespace Go.Proofs.YtojobkhidlfeoaaDoor
open Go.RowKit

theorem fmcells_get4 : ∀ (fs : List Fm) (vs : List FmV) (i : Nat), vs.length = fs.length → i < fs.length → (fmcells fs vs)[i * 4 + 2]? = some (vs.getD i default).lv ∧ (fmcells fs vs)[i * 4 + 3]? = some (vs.getD i default).sv
 | [], _, i, _, h => by simp at h
 | f :: fs, v :: vs, 0, _, _ => ⟨rfl, rfl⟩
 | f :: fs, v :: vs, i + 1, h, h2 => by
  have ih := fmcells_get4 fs vs i (by simpa using h) (by simpa using h2)
  have e : (i + 1) * 4 = i * 4 + 4 := by omega
  rw [e]
  exact ih
/-- The frames handed out: copies. -/
structure FrsV (w : World) (base : Nat) (v : Value) (fs : List Fm) (gs : List FmV) : Prop where
 own : w.ownsRow base 82 4 v fs.length (fmcells fs gs)
 len : gs.length = fs.length
 loc : ∀ i, i < fs.length → OwnV 85 w base (gs.getD i default).lv (fs.getD i default).loc
 stk : ∀ i, i < fs.length → OwnV 85 w base (gs.getD i default).sv (fs.getD i default).stk
theorem fr4_new (w : World) (m p : Int) (lv sv : Value) (j : Nat) (u : Value) (h : ([Value.int .i64 m, .int .i64 p, lv, sv])[j]? = some u) : (w.alloc (.cells #[.int .i64 m, .int .i64 p, lv, sv] 82)).cell? ((⟨w.heap.size, 0, none⟩ : Addr).add j) = some u := by
 rw [Addr.add_lit, Nat.zero_add, cell_of (heap_alloc_new w _)]
 simpa using h
theorem getD_rev {α : Type} [Inhabited α] (l : List α) (i : Nat) (h : i < l.length) : l.reverse.getD i default = l.getD (l.length - 1 - i) default := by
 rw [List.getD_eq_getElem?_getD, List.getD_eq_getElem?_getD, List.getElem?_reverse h]
theorem FrsV.upd {w w' : World} {base : Nat} {v : Value} {fs : List Fm} {gs : List FmV} (h : FrsV w base v fs gs) (hu : Upd [] w w') : FrsV w' base v fs gs :=
 ⟨row_upd h.own hu (by simp), h.len, fun i hi => (h.loc i hi).upd hu (by simp), fun i hi => (h.stk i hi).upd hu (by simp)⟩
theorem FrsV.push {w0 W w6 : World} {v v' lv sv : Value} {fs : List Fm} {gs : List FmV} {fr : Fm} (h : FrsV W w0.heap.size v fs gs) (hW : Upd [] w0 W) (h1 : OwnV 85 W w0.heap.size lv fr.loc) (h2 : OwnV 85 W w0.heap.size sv fr.stk)
  (hown : w6.ownsRow w0.heap.size 82 4 v' (fs.length + 1) (fmcells fs gs ++ [.int .i64 fr.m, .int .i64 fr.pc, lv, sv])) (hgr : W.grownBy w6 v.ownBlock) : FrsV w6 w0.heap.size v' (fs ++ [fr]) (gs ++ [⟨lv, sv⟩]) ∧ Upd [] w0 w6 := by
 have hu : Upd v.ownBlock.toList W w6 := (Upd.refl _ W).grown hgr (fun q hq => Or.inl (Option.mem_toList.2 hq))
 have off : ∀ {x : Value} {xs : List Vl}, OwnV 85 W w0.heap.size x xs → OwnV 85 w6 w0.heap.size x xs := fun hx => hx.upd hu (fun k hk hm => by
  obtain ⟨c1, hc1⟩ := own_typ hx hk
  obtain ⟨c2, hc2⟩ := own_typ h.own (Option.mem_toList.1 hm)
  exact absurd (typ_ne hc1 hc2) (by decide))
 refine ⟨⟨?_, by simp [h.len], fun i hi => ?_, fun i hi => ?_⟩, hW.trans' hu (fun q hq hl => ?_)⟩
 ·rw [fmcells_snoc _ _ _ _ h.len, List.length_append]
  exact hown
 ·by_cases hlt : i < fs.length
  ·have e1 : (gs ++ [(⟨lv, sv⟩ : FmV)]).getD i default = gs.getD i default := by
    rw [List.getD_eq_getElem?_getD, List.getElem?_append_left (by rw [h.len]; exact hlt), List.getD_eq_getElem?_getD]
   have e2 : (fs ++ [fr]).getD i default = fs.getD i default := by
    rw [List.getD_eq_getElem?_getD, List.getElem?_append_left hlt, List.getD_eq_getElem?_getD]
   rw [e1, e2]
   exact off (h.loc i hlt)
  ·have hi2 : i = fs.length := by rw [List.length_append, List.length_singleton] at hi; omega
   subst hi2
   have e1 : (gs ++ [(⟨lv, sv⟩ : FmV)]).getD fs.length default = ⟨lv, sv⟩ := by
    rw [List.getD_eq_getElem?_getD, List.getElem?_append_right (by rw [h.len]; exact Nat.le_refl _), h.len, Nat.sub_self]; rfl
   have e2 : (fs ++ [fr]).getD fs.length default = fr := by
    rw [List.getD_eq_getElem?_getD, List.getElem?_append_right (Nat.le_refl _), Nat.sub_self]; rfl
   rw [e1, e2]
   exact off h1
 ·by_cases hlt : i < fs.length
  ·have e1 : (gs ++ [(⟨lv, sv⟩ : FmV)]).getD i default = gs.getD i default := by
    rw [List.getD_eq_getElem?_getD, List.getElem?_append_left (by rw [h.len]; exact hlt), List.getD_eq_getElem?_getD]
   have e2 : (fs ++ [fr]).getD i default = fs.getD i default := by
    rw [List.getD_eq_getElem?_getD, List.getElem?_append_left hlt, List.getD_eq_getElem?_getD]
   rw [e1, e2]
   exact off (h.stk i hlt)
  ·have hi2 : i = fs.length := by rw [List.length_append, List.length_singleton] at hi; omega
   subst hi2
   have e1 : (gs ++ [(⟨lv, sv⟩ : FmV)]).getD fs.length default = ⟨lv, sv⟩ := by
    rw [List.getD_eq_getElem?_getD, List.getElem?_append_right (by rw [h.len]; exact Nat.le_refl _), h.len, Nat.sub_self]; rfl
   have e2 : (fs ++ [fr]).getD fs.length default = fr := by
    rw [List.getD_eq_getElem?_getD, List.getElem?_append_right (Nat.le_refl _), Nat.sub_self]; rfl
   rw [e1, e2]
   exact off h2
 ·have := (World.ownsRow.lt h.own q (Option.mem_toList.1 hq)).1
  omega
/-- A frame of the machine, counted from below. -/
theorem MAt.fr {B : Nat} {w : World} {U R : List Nat} {mb ib : Nat} {p : Prg} {S : Mc} {X : MX} (h : MAt B w U R mb ib p S X) {i : Nat} (hi : i < S.frs.length) : ∃ g c lp lc lb sp sc sb, X.fv = .slice (some ⟨g, 0, none⟩) S.frs.length c ∧ (w.cell? ⟨g, i * 4, none⟩ = some (.int .i64 (S.frs.reverse.getD i default).m) ∧ w.cell? ⟨g, i * 4 + 1, none⟩ = some (.int .i64 (S.frs.reverse.getD i default).pc) ∧ w.cell? ⟨g, i * 4 + 2, none⟩ = some (.slice lp (S.frs.reverse.getD i default).loc.length lc) ∧ w.cell? ⟨g, i * 4 + 3, none⟩ = some (.slice sp (S.frs.reverse.getD i default).stk.length sc)) ∧
  VlV w (.slice lp (S.frs.reverse.getD i default).loc.length lc) lb 0 (S.frs.reverse.getD i default).loc ∧ (lp = none → lc = 0) ∧ VlV w (.slice sp (S.frs.reverse.getD i default).stk.length sc) sb 0 (S.frs.reverse.getD i default).stk ∧ (sp = none → sc = 0) := by
 have hgl : X.gs.reverse.length = S.frs.reverse.length := by rw [List.length_reverse, List.length_reverse]; exact h.glen
 have hi2 : i < S.frs.reverse.length := by rw [List.length_reverse]; exact hi
 obtain ⟨c0, c1⟩ := fmcells_get S.frs.reverse X.gs.reverse i hgl hi2
 obtain ⟨c2, c3⟩ := fmcells_get4 S.frs.reverse X.gs.reverse i hgl hi2
 rcases h.frow.2 with ⟨h1, h2⟩ | ⟨g, c, cur, h1, _⟩
 ·omega
 ·have q : ∀ j u, (fmcells S.frs.reverse X.gs.reverse)[j]? = some u → w.cell? ⟨g, j, none⟩ = some u := fun j u hj => by
   have := World.ownsRow.cells h.frow (g := g) (by rw [h1]; rfl) j u hj
   rwa [Addr.add_lit, Nat.zero_add] at this
  have hk : S.frs.length - 1 - i < S.frs.length := by omega
  have hrow := h.loc.row (S.frs.length - 1 - i) (by simpa using hk)
  have e1 : (S.frs.map Fm.loc).getD (S.frs.length - 1 - i) [] = (S.frs.reverse.getD i default).loc := by
   rw [getD_rev _ _ hi]
   simp [List.getD_eq_getElem?_getD, List.getElem?_map, List.getElem?_eq_getElem hk]
  have hg : X.gs.length = S.frs.length := h.glen
  have hk2 : S.frs.length - 1 - i < X.gs.length := by omega
  have e2 : (X.gs.map FmV.lv).getD (S.frs.length - 1 - i) default = (X.gs.reverse.getD i default).lv := by
   rw [getD_rev _ _ (by omega), hg]
   simp [List.getD_eq_getElem?_getD, List.getElem?_map, List.getElem?_eq_getElem hk2]
  rw [e1, e2] at hrow
  have hst := h.stk (S.frs.length - 1 - i) hk
  have e3 : X.gs.getD (S.frs.length - 1 - i) default = X.gs.reverse.getD i default := by rw [getD_rev _ _ (by omega), hg]
  have e4 : S.frs.getD (S.frs.length - 1 - i) default = S.frs.reverse.getD i default := by rw [getD_rev _ _ hi]
  rw [e3, e4] at hst
  obtain ⟨lb, hl, _⟩ := OwnV.read hrow
  obtain ⟨sb, hs, _⟩ := hst.read
  obtain ⟨lp, lc, hlv, hln⟩ : ∃ lp lc, (X.gs.reverse.getD i default).lv = .slice lp (S.frs.reverse.getD i default).loc.length lc ∧ (lp = none → lc = 0) := by
   rcases hrow.2 with ⟨h1, h2⟩ | ⟨g, c, cur, h1, _⟩
   ·exact ⟨none, 0, by rw [h1, h2], fun _ => rfl⟩
   ·exact ⟨_, c, h1, fun h => by cases h⟩
  obtain ⟨sp, sc, hsv, _, _, hsn⟩ := hst.form
  rw [hlv] at hl
  rw [hsv] at hs
  exact ⟨g, c, lp, lc, lb, sp, sc, sb, h1, ⟨q _ _ c0, q _ _ c1, by rw [← hlv]; exact q _ _ c2, by rw [← hsv]; exact q _ _ c3⟩, hl, hln, hs, hsn⟩
theorem Tryd.infoMFrame4 : (Tryd.prog.info? 82).map (fun i => (i.zero, i.size, i.bytes)) = some (some (.agg #[.int .i64 0, .int .i64 0, .slice none 0 0, .slice none 0 0]), 4, 64) := by kernel_rfl
set_option maxRecDepth 100000 in
set_option maxHeartbeats 4000000 in
theorem mframes_any {B : Nat} {w : World} {U R : List Nat} {mb ib : Nat} {p : Prg} {S : Mc} {X : MX} (h : MAt B w U R mb ib p S X) (hl : S.frs.length ≤ 300000) (hk : ∀ f ∈ S.frs, f.loc.length ≤ 1000 ∧ f.stk.length ≤ 1000) :
  Calls Tryd.prog 12 #[.pointer (some ⟨mb, 0, none⟩)] w fun e w' => ∃ v gs, e = .returned v ∧ FrsV w' w.heap.size v S.frs.reverse gs ∧ Upd [] w w' := by
 obtain ⟨i0, hj, hj0, hj1, hj2⟩ := info_parts Tryd.infoMFrame4
 have HJ := Lib.hid hj
 have HJ0 := Lib.hid hj0
 have HJ1 := Lib.hid hj1
 have HJ2 := Lib.hid hj2
 clear hj hj0 hj1 hj2
 obtain ⟨fp, fc, hfv⟩ : ∃ fp fc, X.fv = .slice fp S.frs.length fc := by
  rcases h.frow.2 with ⟨h1, h2⟩ | ⟨g, c, cur, h1, _⟩
  ·exact ⟨none, 0, by rw [h1, h2]⟩
  ·exact ⟨_, c, h1⟩
 have m5 : w.cell? ⟨mb, 5, none⟩ = some (.slice fp S.frs.length fc) := h.boxc (congrArg some hfv)
 have HH := Lib.hid h
 have HFV := Lib.hid hfv
 have HK := Lib.hid hk
 clear h hfv hk
 generalize hn : S.frs.length = n at m5 hl
 have HN := Lib.hid hn
 clear hn
 go_enter Tryd.func12, Tryd.ntmps12
 go_wp2_with fail
 go_loopw [3, 11] (fun lv iv wr => ∃ (i : Nat) (gs : List FmV) (lp : Option Addr) (lc : Nat), i ≤ n ∧ iv = .int .i64 i ∧ lv = .slice lp i lc ∧ Hid (FrsV wr w.heap.size (.slice lp i lc) (S.frs.reverse.take i) gs) ∧ Hid (Upd [] w wr)) (fun _ iv _ => n - (intOf iv).toNat)
 case atStart => exact ⟨0, [], none, 0, by omega, rfl, rfl, ⟨World.ownsRow_nil _ _ _ _, rfl, fun i hi => by simp at hi, fun i hi => by simp at hi⟩, Upd.refl [] w⟩
 case round =>
  clear m5
  obtain ⟨i, gs, lp0, lc0, hin, rfl, rfl, HF, HV⟩ := hrel
  obtain ⟨wo, rfl⟩ : ∃ wo : World, wo = wr := ⟨_, rfl⟩
  by_cases hlt : i < n
  ·obtain ⟨g, c, lp, lc, lb, sp, sc, sb, hfv, ⟨f0, f1, f2, f3⟩, hlv, hln, hsv, hsn⟩ := (HH.out.new HV.out).fr (i := i) (by have := HN.out; omega)
   rw [HFV.out] at hfv
   injection hfv with e1 e2 e3
   subst e1 e3
   have hmem : S.frs.reverse.getD i default ∈ S.frs := by
    have h1 : i < S.frs.reverse.length := by rw [List.length_reverse]; have := HN.out; omega
    exact List.mem_reverse.1 (getD_mem h1)
   have hkk := HK.out _ hmem
   have htk : S.frs.reverse.take (i + 1) = S.frs.reverse.take i ++ [S.frs.reverse.getD i default] := by
    have h1 : i < S.frs.reverse.length := by rw [List.length_reverse]; have := HN.out; omega
    rw [List.take_add_one, List.getD_eq_getElem?_getD, List.getElem?_eq_getElem h1]
    rfl
   have HTK := Lib.hid htk
   clear htk hmem e2
   generalize S.frs.reverse.getD i default = fr at f0 f1 f2 f3 hlv hsv hkk HTK
   obtain ⟨fm, fpc, floc, fstk⟩ := fr
   simp only at f0 f1 f2 f3 hlv hsv hkk
   have hu1 := (Upd.refl [] wo).alloc (.cells #[.int .i64 fm, .int .i64 fpc, .slice lp floc.length lc, .slice sp fstk.length sc] 82)
   have HCL1 := Lib.hid (vclone_any lp lc lb 0 floc (wo.alloc (.cells #[.int .i64 fm, .int .i64 fpc, .slice lp floc.length lc, .slice sp fstk.length sc] 82)).drew (hlv.upd hu1.drew (.inr (by simp))) hln (by omega))
   have HCL2 : Hid (∀ W, Upd [] (wo.alloc (.cells #[.int .i64 fm, .int .i64 fpc, .slice lp floc.length lc, .slice sp fstk.length sc] 82)) W → Calls Tryd.prog 21 #[.slice sp fstk.length sc] W fun e w' => ∃ q vc, e = .returned (.slice q fstk.length vc) ∧ OwnV 85 w' W.heap.size (.slice q fstk.length vc) fstk ∧ Upd [] W w') := fun W hW => vclone_any sp sc sb 0 fstk W (hsv.upd (hu1.trans hW) (.inr (by simp))) hsn (by omega)
   have HA := Lib.hid (heap_alloc_new wo (.cells #[.int .i64 fm, .int .i64 fpc, .slice lp floc.length lc, .slice sp fstk.length sc] 82))
   have HU1 := Lib.hid hu1
   clear hlv hsv hln hsn hkk hu1
   go_upto_region 5 with fail
   generalize wo.alloc (.cells #[.int .i64 fm, .int .i64 fpc, .slice lp floc.length lc, .slice sp fstk.length sc] 82) = w1 at HCL1 HCL2 HA HU1 ⊢
   clear f0 f1 f2 f3
   obtain ⟨cb, hcb⟩ : ∃ cb, wo.heap.size = cb := ⟨_, rfl⟩
   rw [hcb] at HA ⊢
   have HCB := Lib.hid hcb
   clear hcb
   have c2 : w1.cell? ⟨cb, 2, none⟩ = some (.slice lp floc.length lc) := by rw [cell_of HA.out]; rfl
   have c3 : w1.cell? ⟨cb, 3, none⟩ = some (.slice sp fstk.length sc) := by rw [cell_of HA.out]; rfl
   have k0 : w1.cell? ⟨cb, 2, none⟩ = some (.slice lp floc.length lc) ∧ w1.cell? ⟨cb, 3, none⟩ = some (.slice sp fstk.length sc) := ⟨c2, c3⟩
   refine wp_region_noPanic ?_
   refine wp_region_M (S := fun w' => w'.cell? ⟨cb, 2, none⟩ = some (.slice lp floc.length lc) ∧ w'.cell? ⟨cb, 3, none⟩ = some (.slice sp fstk.length sc)) 7 (by kernel_rfl) ?_ (fun hHeld => ?_)
   ·first | exact k0 | exact k1 | exact k2
   refine wpAnyM_takeP (i := 0) [7] (oi := ?_) (v := ?_) ?_ (by kernel_rfl) (by kernel_rfl) (by kernel_rfl) (by kernel_rfl) (fun _ _ _ h => h) (Or.inl ⟨?_, ?_⟩) hHeld ?_
   rotate_left 2
   ·simp only [List.getElem?_toArray, List.getElem?_cons_zero]; rfl
   ·rfl
   ·intro _ hSw; (try dsimp only at hSw); go_simp <;> with_reducible rfl
   (try simp only [Act.put, List.setIfInBounds_toArray, List.set_cons_zero, List.set_cons_succ])
   refine wpAnyM_takeP (i := 1) [7] (oi := ?_) (v := ?_) ?_ (by kernel_rfl) (by kernel_rfl) (by kernel_rfl) (by kernel_rfl) (fun _ _ _ h => h) (Or.inl ⟨?_, ?_⟩) hHeld ?_
   rotate_left 2
   ·simp only [List.getElem?_toArray, List.getElem?_cons_zero, List.getElem?_cons_succ]; rfl
   ·rfl
   ·intro _ hSw; (try dsimp only at hSw); go_simp <;> with_reducible rfl
   (try simp only [Act.put, List.setIfInBounds_toArray, List.set_cons_zero, List.set_cons_succ])
   refine wpAnyM_takeP (i := 3) [7] (oi := ?_) (v := ?_) ?_ (by kernel_rfl) (by kernel_rfl) (by kernel_rfl) (by kernel_rfl) (fun _ _ _ h => h) (Or.inl ⟨?_, ?_⟩) hHeld ?_
   rotate_left 2
   ·simp only [List.getElem?_toArray, List.getElem?_cons_zero, List.getElem?_cons_succ]; rfl
   ·rfl
   ·intro _ hSw; (try dsimp only at hSw); go_simp <;> with_reducible rfl
   (try simp only [Act.put, List.setIfInBounds_toArray, List.set_cons_zero, List.set_cons_succ])
   refine wpAnyM_takeP (i := 4) [7] (oi := ?_) (v := ?_) ?_ (by kernel_rfl) (by kernel_rfl) (by kernel_rfl) (by kernel_rfl) (fun _ _ _ h => h) (Or.inl ⟨?_, ?_⟩) hHeld ?_
   rotate_left 2
   ·simp only [List.getElem?_toArray, List.getElem?_cons_zero, List.getElem?_cons_succ]; rfl
   ·rfl
   ·intro _ hSw; (try dsimp only at hSw); go_simp <;> with_reducible rfl
   (try simp only [Act.put, List.setIfInBounds_toArray, List.set_cons_zero, List.set_cons_succ])
   refine wpAnyM_one (i := 2) (o := ?_) (by kernel_rfl) ?_ (fun K hK => ?_)
   rotate_left 1
   ·simp only [List.getElem?_toArray, List.getElem?_cons_zero, List.getElem?_cons_succ]; rfl
   clear hHeld
   go_simp
   (go_at_call 21; refine (HCL1.out).mono ?_; rintro e w2 ⟨q1, v1, rfl, ho1, hu2⟩; have HO1 := Lib.hid ho1; have HU2 := Lib.hid (((Upd.refl [] w1).drew).trans hu2); have k1 : w2.cell? ⟨cb, 2, none⟩ = some (.slice lp floc.length lc) ∧ w2.cell? ⟨cb, 3, none⟩ = some (.slice sp fstk.length sc) := ⟨HU2.out.cell c2 (by simp), HU2.out.cell c3 (by simp)⟩; clear ho1 hu2)
   try go_wp2_with fail
   refine hK.out _ _ ?_ (fun hHeld => ?_)
   ·first | exact k0 | exact k1 | exact k2
   clear hK K
   (try simp only [Act.put, List.setIfInBounds_toArray, List.set_cons_zero, List.set_cons_succ])
   refine wpAnyM_takeP (i := 6) [7] (oi := ?_) (v := ?_) ?_ (by kernel_rfl) (by kernel_rfl) (by kernel_rfl) (by kernel_rfl) (fun _ _ _ h => h) (Or.inl ⟨?_, ?_⟩) hHeld ?_
   rotate_left 2
   ·simp only [List.getElem?_toArray, List.getElem?_cons_zero, List.getElem?_cons_succ]; rfl
   ·rfl
   ·intro _ hSw; (try dsimp only at hSw); go_simp <;> with_reducible rfl
   (try simp only [Act.put, List.setIfInBounds_toArray, List.set_cons_zero, List.set_cons_succ])
   refine wpAnyM_one (i := 5) (o := ?_) (by kernel_rfl) ?_ (fun K hK => ?_)
   rotate_left 1
   ·simp only [List.getElem?_toArray, List.getElem?_cons_zero, List.getElem?_cons_succ]; rfl
   clear hHeld
   go_simp
   (go_at_call 21; refine (HCL2.out _ HU2.out).mono ?_; rintro e w3 ⟨q2, v2, rfl, ho2, hu3⟩; have HO2 := Lib.hid ho2; have HU3 := Lib.hid hu3; have HA3 := Lib.hid ((HU2.out.trans hu3).heap HA.out (by simp)); have k2 : w3.cell? ⟨cb, 2, none⟩ = some (.slice lp floc.length lc) ∧ w3.cell? ⟨cb, 3, none⟩ = some (.slice sp fstk.length sc) := ⟨by rw [cell_of HA3.out]; rfl, by rw [cell_of HA3.out]; rfl⟩; have z2 := froz_of HA3.out; clear ho2 hu3)
   try go_wp2_with fail
   refine hK.out _ _ ?_ (fun hHeld => ?_)
   ·first | exact k0 | exact k1 | exact k2
   clear hK K
   (try simp only [Act.put, List.setIfInBounds_toArray, List.set_cons_zero, List.set_cons_succ])
   refine wpAnyM_last (o := ?_) (by kernel_rfl) ?_ (fun K hK => ?_)
   rotate_left 1
   ·simp only [List.getElem?_toArray, List.getElem?_cons_zero, List.getElem?_cons_succ]; rfl
   clear hHeld
   obtain ⟨y2, y3⟩ := k2
   go_simp
   refine hK.out _ _ ?_
   clear hK K
   (try simp only [Act.put, List.setIfInBounds_toArray, List.set_cons_zero, List.set_cons_succ])
   refine wpAnyM_after (i := 8) (o := ?_) (by kernel_rfl) (by kernel_rfl) ?_ (fun K hK => ?_)
   rotate_left 1
   ·simp only [List.getElem?_toArray, List.getElem?_cons_zero, List.getElem?_cons_succ]; rfl
   go_simp
   refine hK.out _ _ ?_
   clear hK K
   (try simp only [Act.put, List.setIfInBounds_toArray, List.set_cons_zero, List.set_cons_succ])
   refine wpAnyM_after (i := 9) (o := ?_) (by kernel_rfl) (by kernel_rfl) ?_ (fun K hK => ?_)
   rotate_left 1
   ·simp only [List.getElem?_toArray, List.getElem?_cons_zero, List.getElem?_cons_succ]; rfl
   go_simp
   refine hK.out _ _ ?_
   clear hK K
   (try simp only [Act.put, List.setIfInBounds_toArray, List.set_cons_zero, List.set_cons_succ])
   refine wpAnyM_done (by kernel_rfl) ?_ _
   refine NoPanic.normal ?_
   have HA4 := Lib.hid (heap_setCell (heap_setCell HA3.out 2 (.slice q1 floc.length v1)) 3 (.slice q2 fstk.length v2))
   have HU4 : Hid (Upd [cb] w3 ((w3.setCell ⟨cb, 2, none⟩ (.slice q1 floc.length v1)).setCell ⟨cb, 3, none⟩ (.slice q2 fstk.length v2))) := ((Upd.refl [cb] w3).setCell (.inl (by simp)) _).setCell (.inl (by simp)) _
   go_upto_region 6 with fail
   have HU04 : Hid (Upd [] wo ((w3.setCell ⟨cb, 2, none⟩ (.slice q1 floc.length v1)).setCell ⟨cb, 3, none⟩ (.slice q2 fstk.length v2))) := ((HU1.out.trans HU2.out).trans HU3.out).trans' HU4.out (fun b hb _ => by
    rw [List.mem_singleton] at hb
    have := HCB.out
    omega)
   have HU14 : Hid (Upd [] w3 ((w3.setCell ⟨cb, 2, none⟩ (.slice q1 floc.length v1)).setCell ⟨cb, 3, none⟩ (.slice q2 fstk.length v2)) ∨ True) := .inr trivial
   have hcb1 : cb < w1.heap.size := (Array.getElem?_eq_some_iff.1 HA.out).1
   have HR1 : Hid (OwnV 85 ((w3.setCell ⟨cb, 2, none⟩ (.slice q1 floc.length v1)).setCell ⟨cb, 3, none⟩ (.slice q2 fstk.length v2)) w.heap.size (.slice q1 floc.length v1) floc) := by
    have h1 := HO1.out.upd HU3.out (by simp)
    have hz : w1.drew.heap.size = w1.heap.size := rfl
    refine ((h1.upd HU4.out (fun k hk hm => ?_))).low ?_
    ·rw [List.mem_singleton] at hm
     have := World.ownsRow.lt HO1.out k hk
     omega
    ·have := HV.out.size
     have := HU1.out.size
     omega
   have HR2 : Hid (OwnV 85 ((w3.setCell ⟨cb, 2, none⟩ (.slice q1 floc.length v1)).setCell ⟨cb, 3, none⟩ (.slice q2 fstk.length v2)) w.heap.size (.slice q2 fstk.length v2) fstk) := by
    have hz2 := HU2.out.size
    refine (HO2.out.upd HU4.out (fun k hk hm => ?_)).low ?_
    ·rw [List.mem_singleton] at hm
     have := World.ownsRow.lt HO2.out k hk
     omega
    ·have := HV.out.size
     have := HU1.out.size
     omega
   generalize (w3.setCell ⟨cb, 2, none⟩ (.slice q1 floc.length v1)).setCell ⟨cb, 3, none⟩ (.slice q2 fstk.length v2) = w4 at HA4 HU04 HR1 HR2 ⊢
   clear HU4 HU14 k0 k1 c2 c3 y2 y3 z2 HO1 HO2 HCL1 HCL2
   have y0 : w4.cell? ⟨cb, 0, none⟩ = some (.int .i64 fm) := by rw [cell_of HA4.out]; rfl
   have y1 : w4.cell? ⟨cb, 1, none⟩ = some (.int .i64 fpc) := by rw [cell_of HA4.out]; rfl
   have y2 : w4.cell? ⟨cb, 2, none⟩ = some (.slice q1 floc.length v1) := by rw [cell_of HA4.out]; rfl
   have y3 : w4.cell? ⟨cb, 3, none⟩ = some (.slice q2 fstk.length v2) := by rw [cell_of HA4.out]; rfl
   have hti : (S.frs.reverse.take i).length = i := by rw [List.length_take, List.length_reverse]; have := HN.out; omega
   have HTI := Lib.hid hti
   clear hti
   go_wp2_with (at_builtin; refine stop_here ?_)
   refine Hid.mk ?_
   have hua := (Upd.refl [] w4).alloc (.cells #[.int .i64 fm, .int .i64 fpc, .slice q1 floc.length v1, .slice q2 fstk.length v2] 82)
   have hFW := HF.out.upd (HU04.out.trans hua)
   have hrow := hFW.own
   rw [HTI.out] at hrow
   have hbs : w.heap.size ≤ w4.heap.size := by
    have := HV.out.size
    have := HU04.out.size
    omega
   have hsrc : SrcV (w4.alloc (.cells #[.int .i64 fm, .int .i64 fpc, .slice q1 floc.length v1, .slice q2 fstk.length v2] 82)) (.slice (some ⟨w4.heap.size, 0, none⟩) 1 1) 1 [.int .i64 fm, .int .i64 fpc, .slice q1 floc.length v1, .slice q2 fstk.length v2] := .inr ⟨_, _, rfl, fr4_new w4 fm fpc _ _⟩
   refine (wpList_append_src rfl _ _ 52 rfl w.heap.size 82 i0 (.agg #[.int .i64 0, .int .i64 0, .slice none 0 0, .slice none 0 0]) 4 64 Tryd.underlying52 HJ.out HJ0.out HJ1.out HJ2.out rfl (by decide) _ _ _ rfl hrow _ 1 [.int .i64 fm, .int .i64 fpc, .slice q1 floc.length v1, .slice q2 fstk.length v2] rfl hsrc rfl (by simp [Value.oneCell']) (by unfold maxLen; omega) (by omega) (by simp; omega) ?_)
   intro v' w6 hown hgr _
   have hown2 : w6.ownsRow w.heap.size 82 4 v' ((S.frs.reverse.take i).length + 1) (fmcells (S.frs.reverse.take i) gs ++ [.int .i64 fm, .int .i64 fpc, .slice q1 floc.length v1, .slice q2 fstk.length v2]) := by
    rw [HTI.out]
    exact hown
   have hpush := hFW.push (fr := ⟨fm, fpc, floc, fstk⟩) ((HV.out.trans HU04.out).trans hua) (HR1.out.upd hua (by simp)) (HR2.out.upd hua (by simp)) hown2 hgr
   rw [← HTK.out] at hpush
   obtain ⟨gq, cq, cur, rfl, _⟩ := own_pos hown (by omega)
   have HP := Lib.hid hpush
   clear hua hFW hrow hbs hsrc hown hgr hown2 hpush
   go_wp2_with fail
   go_roundw
   case rel => exact ⟨i + 1, gs ++ [(⟨.slice q1 floc.length v1, .slice q2 fstk.length v2⟩ : FmV)], some ⟨gq, 0, none⟩, cq, by omega, by go_num, rfl, Lib.hid HP.out.1, Lib.hid HP.out.2⟩
   case measure => simp [intOf]; omega
  ·obtain rfl : i = n := by omega
   go_wp2_with fail
   go_ret
   have h1 := HF.out
   rw [List.take_of_length_le (by rw [List.length_reverse, HN.out]; exact Nat.le_refl _)] at h1
   exact ⟨_, _, rfl, h1, HV.out⟩
end Go.Proofs.YtojobkhidlfeoaaDoor

/-! Two rows of long integers compared. -/
namespace Go.Proofs.YtojobkhidlfeoaaDoor
open Go.RowKit

set_option maxHeartbeats 800000 in
theorem slongs (va vb : Value) (ba bb : Nat) (xs ys : List Int) (w : World) (ha : IntsV w va ba xs) (hb : IntsV w vb bb ys) (hn : xs.length ≤ 1000000) :
  Calls Tryd.prog 13 #[va, vb] w fun e w' => e = .returned (.bool (decide (xs = ys))) ∧ Upd [] w w' := by
 obtain ⟨pa, ca, rfl⟩ := ha.form
 obtain ⟨pb, cb, rfl⟩ := hb.form
 by_cases hl : xs.length = ys.length
 ·go_enter Tryd.func13, Tryd.ntmps13
  go_wp2_with fail
  go_loopw [5] (fun i wr => ∃ k : Nat, k ≤ xs.length ∧ i = .int .i64 k ∧ Hid (∀ j, j < k → xs.getD j 0 = ys.getD j 0) ∧ Upd [] w wr) (fun i _ => xs.length - (intOf i).toNat)
  case atStart => exact ⟨0, by omega, rfl, (fun j hj => by omega : ∀ j, j < 0 → _), Upd.refl _ _⟩
  case round =>
   obtain ⟨k, hk, rfl, hsame, hU⟩ := hrel
   by_cases hlt : k < xs.length
   ·obtain ⟨h1, h2⟩ := slongs_nth _ _ _ _ _ ha k hlt
    obtain ⟨h3, h4⟩ := slongs_nth _ _ _ _ _ hb k (by omega)
    subst h1
    subst h3
    have hx := hU.cell h2 (by simp)
    have hy := hU.cell h4 (by simp)
    clear h2 h4
    have HXE := Lib.hid (rfl : xs.getD k 0 = xs.getD k 0)
    generalize hgx : xs.getD k 0 = x at hx
    generalize hgy : ys.getD k 0 = y at hy
    have HGX := Lib.hid hgx
    have HGY := Lib.hid hgy
    clear hgx hgy HXE
    by_cases hxy : x = y
    ·subst hxy
     go_wp2_with fail
     go_region
     all_goals (try go_wp2_with fail)
     all_goals go_roundw
     case rel =>
      refine ⟨k + 1, by omega, by go_num, (fun j hj => ?_ : ∀ j, j < k + 1 → _), by first | exact hU | exact hU.drew | exact hU.drewN _⟩
      by_cases e : j = k
      ·subst e; rw [HGX.out, HGY.out]
      ·exact hsame.out j (by omega)
     case measure => simp [intOf]; omega
    ·have hbne : (x == y) = false := by simpa using hxy
     go_wp2_with fail
     go_region
     all_goals (try rw [hbne])
     all_goals (try go_wp2_with fail)
     all_goals go_ret
     have hne : xs ≠ ys := fun e => hxy (by rw [← HGX.out, ← HGY.out, e])
     exact ⟨by simp [hne], by first | exact hU | exact hU.drew | exact hU.drewN _⟩
   ·go_wp2_with fail
    go_ret
    have heq : xs = ys := by
     apply List.ext_getElem hl
     intro i h1 h2
     have := hsame.out i (by omega)
     rw [List.getD_eq_getElem?_getD, List.getD_eq_getElem?_getD, List.getElem?_eq_getElem h1, List.getElem?_eq_getElem h2] at this
     simpa using this
    exact ⟨by simp [heq], hU⟩
 ·go_enter Tryd.func13, Tryd.ntmps13
  go_wp2_with fail
  go_ret
  have : xs ≠ ys := fun e => hl (by rw [e])
  exact ⟨by simp [this], Upd.refl _ _⟩

end Go.Proofs.YtojobkhidlfeoaaDoor

/-! overdriveref.SameOutcome. -/
namespace Go.Proofs.YtojobkhidlfeoaaDoor
open Go.RowKit

set_option maxRecDepth 100000 in
set_option maxHeartbeats 2000000 in
theorem souts_any {w : World} {va vb : Value} {ba bb : Nat} {xs ys : List Int} (ha : IntsV w va ba xs) (hb : IntsV w vb bb ys) (hn : xs.length ≤ 1000000) (k t m p v k' t' m' p' v' : Int) :
  Calls Tryd.prog 7 #[.agg #[.int .i64 k, .int .i64 t, .int .i64 m, .int .i64 p, .int .i64 v, va], .agg #[.int .i64 k', .int .i64 t', .int .i64 m', .int .i64 p', .int .i64 v', vb]] w fun e w' => e = .returned (.bool (decide (k = k' ∧ t = t' ∧ m = m' ∧ p = p' ∧ v = v' ∧ xs = ys))) ∧ Upd [] w w' := by
 obtain ⟨pa, ca, rfl⟩ := ha.form
 obtain ⟨pb, cb, rfl⟩ := hb.form
 have hu := ((Upd.refl [] w).alloc (.cells #[.int .i64 k, .int .i64 t, .int .i64 m, .int .i64 p, .int .i64 v, .slice pa xs.length ca] 25)).alloc (.cells #[.int .i64 k', .int .i64 t', .int .i64 m', .int .i64 p', .int .i64 v', .slice pb ys.length cb] 25)
 have HSL := Lib.hid (slongs _ _ ba bb xs ys _ (ha.upd hu (by simp)) (hb.upd hu (by simp)) hn)
 have hA := ((Upd.refl [] _).alloc (.cells #[.int .i64 k', .int .i64 t', .int .i64 m', .int .i64 p', .int .i64 v', .slice pb ys.length cb] 25)).heap (heap_alloc_new w (.cells #[.int .i64 k, .int .i64 t, .int .i64 m, .int .i64 p, .int .i64 v, .slice pa xs.length ca] 25)) (by simp)
 have hB := heap_alloc_new (w.alloc (.cells #[.int .i64 k, .int .i64 t, .int .i64 m, .int .i64 p, .int .i64 v, .slice pa xs.length ca] 25)) (.cells #[.int .i64 k', .int .i64 t', .int .i64 m', .int .i64 p', .int .i64 v', .slice pb ys.length cb] 25)
 rw [show (w.alloc (.cells #[.int .i64 k, .int .i64 t, .int .i64 m, .int .i64 p, .int .i64 v, .slice pa xs.length ca] 25)).heap.size = w.heap.size + 1 by simp] at hB
 have HU := Lib.hid hu
 clear ha hb hu
 go_enter Tryd.func7, Tryd.ntmps7
 go_upto_region 1 with fail
 generalize (w.alloc (.cells #[.int .i64 k, .int .i64 t, .int .i64 m, .int .i64 p, .int .i64 v, .slice pa xs.length ca] 25)).alloc (.cells #[.int .i64 k', .int .i64 t', .int .i64 m', .int .i64 p', .int .i64 v', .slice pb ys.length cb] 25) = w1 at HSL hA hB HU ⊢
 have HA := Lib.hid hA
 have HB := Lib.hid hB
 have a5 : w1.cell? ⟨w.heap.size, 5, none⟩ = some (.slice pa xs.length ca) := by rw [cell_of hA]; rfl
 have b5 : w1.cell? ⟨w.heap.size + 1, 5, none⟩ = some (.slice pb ys.length cb) := by rw [cell_of hB]; rfl
 clear hA hB
 obtain ⟨dd, hdd⟩ : ∃ dd, decide (xs = ys) = dd := ⟨_, rfl⟩
 rw [hdd] at HSL
 have HDD := Lib.hid hdd
 clear hdd
 go_wp2_with fail
 refine HSL.out.mono ?_
 rintro e w2 ⟨rfl, hu2⟩
 have HA2 := hu2.heap HA.out (by simp)
 have HB2 := hu2.heap HB.out (by simp)
 have HU2 := Lib.hid (HU.out.trans hu2)
 clear hu2 a5 b5
 have a0 : w2.cell? ⟨w.heap.size, 0, none⟩ = some (.int .i64 k) := by rw [cell_of HA2]; rfl
 have a1 : w2.cell? ⟨w.heap.size, 1, none⟩ = some (.int .i64 t) := by rw [cell_of HA2]; rfl
 have a2 : w2.cell? ⟨w.heap.size, 2, none⟩ = some (.int .i64 m) := by rw [cell_of HA2]; rfl
 have a3 : w2.cell? ⟨w.heap.size, 3, none⟩ = some (.int .i64 p) := by rw [cell_of HA2]; rfl
 have a4 : w2.cell? ⟨w.heap.size, 4, none⟩ = some (.int .i64 v) := by rw [cell_of HA2]; rfl
 have b0 : w2.cell? ⟨w.heap.size + 1, 0, none⟩ = some (.int .i64 k') := by rw [cell_of HB2]; rfl
 have b1 : w2.cell? ⟨w.heap.size + 1, 1, none⟩ = some (.int .i64 t') := by rw [cell_of HB2]; rfl
 have b2 : w2.cell? ⟨w.heap.size + 1, 2, none⟩ = some (.int .i64 m') := by rw [cell_of HB2]; rfl
 have b3 : w2.cell? ⟨w.heap.size + 1, 3, none⟩ = some (.int .i64 p') := by rw [cell_of HB2]; rfl
 have b4 : w2.cell? ⟨w.heap.size + 1, 4, none⟩ = some (.int .i64 v') := by rw [cell_of HB2]; rfl
 clear HA2 HB2 HA HB
 by_cases e0 : k = k'
 ·subst e0
  by_cases e1 : t = t'
  ·subst e1
   by_cases e2 : m = m'
   ·subst e2
    by_cases e3 : p = p'
    ·subst e3
     by_cases e4 : v = v'
     ·subst e4
      go_wp2_with fail
      go_ret
      exact ⟨by rw [← HDD.out]; simp, HU2.out⟩
     ·have n4 : (v == v') = false := by simpa using e4
      go_wp2_with fail
      go_ret
      exact ⟨by simp, HU2.out⟩
    ·have n3 : (p == p') = false := by simpa using e3
     go_wp2_with fail
     go_ret
     exact ⟨by simp, HU2.out⟩
   ·have n2 : (m == m') = false := by simpa using e2
    go_wp2_with fail
    go_ret
    exact ⟨by simp, HU2.out⟩
  ·have n1 : (t == t') = false := by simpa using e1
   go_wp2_with fail
   go_ret
   exact ⟨by simp, HU2.out⟩
 ·have n0 : (k == k') = false := by simpa using e0
  go_wp2_with fail
  go_ret
  exact ⟨by simp [e0], HU2.out⟩
end Go.Proofs.YtojobkhidlfeoaaDoor
