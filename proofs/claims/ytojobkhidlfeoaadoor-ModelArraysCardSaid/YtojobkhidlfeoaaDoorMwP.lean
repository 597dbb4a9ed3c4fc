/- model: Machine.Step. model: Machine.Step: a plain instruction. model: Machine.Step: a call; any step. -/
import Derived.Test.YtojobkhidlfeoaaDoorMwM
import Derived.Test.YtojobkhidlfeoaaDoorMdS
/-! model: Machine.Step. -/
namespace Go.Proofs.YtojobkhidlfeoaaDoor
open Go.RowKit

/-- The machine goes on: what a method of it has done. -/
def Stp (B : Nat) (w w' : World) (U R : List Nat) (mb ib : Nat) (p : Prg) (S' : Mc) : Prop := (∃ X', MAt B w' (U ++ news w w') (R ++ news w w') mb ib p S' X') ∧ Upd R w w'
section
variable {B : Nat} {w w1 w2 : World} {U R : List Nat} {mb ib : Nat} {p : Prg} {S S' : Mc} {X : MX} {f : Fm} {below : List Fm} {ss : List Lk}
theorem Stp.go (hu : Upd R w w1) (h : Stp B w1 w2 (U ++ news w w1) (R ++ news w w1) mb ib p S') : Stp B w w2 U R mb ib p S' := by
 obtain ⟨⟨X', h1⟩, h2⟩ := h
 rw [List.append_assoc, List.append_assoc, ← news_app hu.size h2.size] at h1
 refine ⟨⟨X', h1⟩, hu.trans' h2 (fun b hb hl => ?_)⟩
 rcases List.mem_append.1 hb with h3 | h3
 ·exact h3
 ·have := (mem_news.1 h3).1; omega
theorem MAt.boxc (h : MAt B w U R mb ib p S X) {k : Nat} {v : Value} (hk : (mccells ib S X)[k]? = some v) : w.cell? ⟨mb, k, none⟩ = some v := by rw [cell_of h.box]; exact hk
theorem Stp.ended (h : Stp B w w2 U R mb ib p S') : w2.cell? ⟨mb, 13, none⟩ = some (.bool S'.fin.isSome) := by
 obtain ⟨⟨X', h1⟩, _⟩ := h
 exact h1.boxc rfl
set_option maxRecDepth 100000 in
theorem mstep_ended {F : Fend} (h : MAt B w U R mb ib p S X) (hfin : S.fin = some F) :
  Calls Tryd.prog 20 #[.pointer (some ⟨mb, 0, none⟩)] w fun e w' => e = .returned (.bool (S.step p).fin.isNone) ∧ Stp B w w' U R mb ib p (S.step p) := by
 have hs : S.step p = S := Mc.step_end (by rw [hfin]; simp)
 rw [hs, hfin]
 have m13 : w.cell? ⟨mb, 13, none⟩ = some (.bool true) := h.boxc (by rw [mccells, hfin]; rfl)
 have HS : Hid (Stp B w w U R mb ib p S) := ⟨⟨X, h.new (Upd.refl [] w)⟩, Upd.refl R w⟩
 clear h
 go_enter Tryd.func20, Tryd.ntmps20
 go_wp2_with fail
 go_ret
 exact ⟨rfl, HS.out⟩

set_option maxRecDepth 100000 in
set_option maxHeartbeats 4000000 in
theorem mstep_jump (h : MAt B w U R mb ib p S X) (v : Vf p ss) (hS : S.Ok p ss) (hf : S.frs = f :: below) (hfin : S.fin = none) (hop : (p.at_ f.m f.pc).op = 22 ∨ (p.at_ f.m f.pc).op = 23) :
  Calls Tryd.prog 20 #[.pointer (some ⟨mb, 0, none⟩)] w fun e w' => e = .returned (.bool (S.step p).fin.isNone) ∧ Stp B w w' U R mb ib p (S.step p) := by
 obtain ⟨t, a⟩ := hS.at_ v.ok v.look v.bd hf
 generalize hxx : p.at_ f.m f.pc = x at a hop
 have hstep : S.step p = S.stepF p below f := Mc.step_on hfin hf
 rw [hstep]
 have hcode : (p.ms.getD f.m default).code.getD f.pc default = x := hxx
 obtain ⟨op, ia, ib', ic⟩ := x
 simp only at hop
 obtain ⟨g, gb, fb, c, hg, hgl, hfv, hc1, hc2, hR, hfq, q1, q2, _, _⟩ := h.top hf
 obtain ⟨mbb, mo, mc, ka, kc, hmU, hmv, _, _, _, q3, hco⟩ := h.methU a.fr.m
 obtain ⟨ca, cap, he, hl1, hl2, hcx⟩ := hco
 obtain ⟨xb, xo, hab, hbd, hins⟩ := hcx f.pc a.fr.pc
 injection he with e1 _ e3
 subst e1 e3 hab
 rw [hcode] at hins
 obtain ⟨x0, x1, x2, x3⟩ := hins
 have hmlt : (f.m : Int) < (p.ms.length : Int) := by have := a.fr.m; omega
 have hplt : (f.pc : Int) < ((p.ms.getD f.m default).code.length : Int) := by have := a.fr.pc; omega
 have q0 : w.cell? ⟨mb, 2, none⟩ = some (.slice (some ⟨mbb, mo, none⟩) p.ms.length mc) := h.boxc (congrArg some hmv)
 have m5 : w.cell? ⟨mb, 5, none⟩ = some (.slice (some ⟨fb, 0, none⟩) (below.length + 1) c) := h.boxc (congrArg some hfv)
 have m13 : w.cell? ⟨mb, 13, none⟩ = some (.bool false) := h.boxc (by rw [mccells, hfin]; rfl)
 have hbl : below.length + 1 ≤ 9223372036854775807 := by unfold maxLen at hc2; omega
 have s1 : IntKind.i64.wrap (((below.length + 1 : Nat) : Int) - 1) = (below.length : Int) := by rw [IntWalk.i64_in _ (by omega)]; omega
 have s0 : IntKind.i64.wrap (below.length : Int) = (below.length : Int) := IntWalk.i64_in _ (by omega)
 have hbl2 : (below.length : Int) < (below.length : Int) + 1 := by omega
 have hpb : f.pc < 1000 := by
  have h1 := v.ok.meth f.m a.fr.m
  unfold headCode at h1
  split at h1
  ·cases h1
  ·have := a.fr.pc; omega
 have hfl : f.stk.length ≤ 1000 := by have := hS.len v f (by rw [hf]; simp); omega
 have HH := Lib.hid h
 have HF := Lib.hid hf
 have HFIN := Lib.hid hfin
 have HFV := Lib.hid hfv
 have HAT := Lib.hid a
 have HV := Lib.hid v
 have HOK := Lib.hid hS
 have HCODE := Lib.hid hcode
 have HC2 := Lib.hid hc2
 clear h hf hfin hfv a v hS hcode hxx hstep hg hgl hR hfq hmv hmU hcx hl1 hl2 hbd hc1 hc2 HCODE
 generalize (p.ms.getD f.m default).code.length = cl at *
 have k0 : w.cell? ⟨mb, 2, none⟩ = some (.slice (some ⟨mbb, mo, none⟩) p.ms.length mc) ∧ w.cell? ⟨fb, below.length * 4, none⟩ = some (.int .i64 f.m) ∧ w.cell? ⟨fb, below.length * 4 + 1, none⟩ = some (.int .i64 f.pc) ∧ w.cell? ⟨mbb, mo + f.m * 4 + 3, none⟩ = some (.slice (some ⟨xb, xo, none⟩) cl kc) ∧ w.cell? ⟨xb, xo + f.pc * 4, none⟩ = some (.int .i64 op) ∧ w.cell? ⟨xb, xo + f.pc * 4 + 1, none⟩ = some (.int .i64 ia) ∧ w.cell? ⟨xb, xo + f.pc * 4 + 2, none⟩ = some (.int .i64 ib') ∧ w.cell? ⟨xb, xo + f.pc * 4 + 3, none⟩ = some (.int .i64 ic) := ⟨q0, q1, q2, q3, x0, x1, x2, x3⟩
 have k1 : ∀ O, (w.drew.drew.alloc O).cell? ⟨mb, 2, none⟩ = some (.slice (some ⟨mbb, mo, none⟩) p.ms.length mc) ∧ (w.drew.drew.alloc O).cell? ⟨fb, below.length * 4, none⟩ = some (.int .i64 f.m) ∧ (w.drew.drew.alloc O).cell? ⟨fb, below.length * 4 + 1, none⟩ = some (.int .i64 f.pc) ∧ (w.drew.drew.alloc O).cell? ⟨mbb, mo + f.m * 4 + 3, none⟩ = some (.slice (some ⟨xb, xo, none⟩) cl kc) ∧ (w.drew.drew.alloc O).cell? ⟨xb, xo + f.pc * 4, none⟩ = some (.int .i64 op) ∧ (w.drew.drew.alloc O).cell? ⟨xb, xo + f.pc * 4 + 1, none⟩ = some (.int .i64 ia) ∧ (w.drew.drew.alloc O).cell? ⟨xb, xo + f.pc * 4 + 2, none⟩ = some (.int .i64 ib') ∧ (w.drew.drew.alloc O).cell? ⟨xb, xo + f.pc * 4 + 3, none⟩ = some (.int .i64 ic) := fun O => by
  have hx := (((Upd.refl [] w).drew).drew).alloc O
  exact ⟨hx.cell q0 (by simp), hx.cell q1 (by simp), hx.cell q2 (by simp), hx.cell q3 (by simp), hx.cell x0 (by simp), hx.cell x1 (by simp), hx.cell x2 (by simp), hx.cell x3 (by simp)⟩
 have HNEW := Lib.hid (heap_alloc_new w.drew.drew (.cells #[.int .i64 0, .int .i64 0, .int .i64 0, .int .i64 0] 29))
 have r0 : (w.drew.drew.alloc (.cells #[.int .i64 0, .int .i64 0, .int .i64 0, .int .i64 0] 29)).cell? ⟨w.drew.drew.heap.size, 0, none⟩ = some (.int .i64 0) := by rw [cell_of HNEW.out]; rfl
 have r1 : (w.drew.drew.alloc (.cells #[.int .i64 0, .int .i64 0, .int .i64 0, .int .i64 0] 29)).cell? ⟨w.drew.drew.heap.size, 1, none⟩ = some (.int .i64 0) := by rw [cell_of HNEW.out]; rfl
 have r2 : (w.drew.drew.alloc (.cells #[.int .i64 0, .int .i64 0, .int .i64 0, .int .i64 0] 29)).cell? ⟨w.drew.drew.heap.size, 2, none⟩ = some (.int .i64 0) := by rw [cell_of HNEW.out]; rfl
 have r3 : (w.drew.drew.alloc (.cells #[.int .i64 0, .int .i64 0, .int .i64 0, .int .i64 0] 29)).cell? ⟨w.drew.drew.heap.size, 3, none⟩ = some (.int .i64 0) := by rw [cell_of HNEW.out]; rfl
 have rz := froz_of HNEW.out
 have HU : Hid (Upd [] w (w.alloc (.cells #[.int .i64 op, .int .i64 ia, .int .i64 ib', .int .i64 ic] 29)).drew.drew) := ((Upd.refl [] w).alloc _).drew.drew
 have HBX : Hid ((w.alloc (.cells #[.int .i64 op, .int .i64 ia, .int .i64 ib', .int .i64 ic] 29)).drew.drew.heap[w.heap.size]? = some (.cells #[.int .i64 op, .int .i64 ia, .int .i64 ib', .int .i64 ic] 29)) := heap_alloc_new w _
 clear q0 q1 q2 q3 x0 x1 x2 x3 HNEW
 go_enter Tryd.func20, Tryd.ntmps20
 go_upto_region 3 with fail
 refine wp_region_noPanic ?_
 refine wp_region_L (S := fun w' => w'.cell? ⟨mb, 5, none⟩ = some (.slice (some ⟨fb, 0, none⟩) (below.length + 1) c)) 11 (by kernel_rfl) ?_ (fun hHeld => ?_)
 ·exact m5
 refine Nx.start [(0, [11]), (1, [11]), (2, [11]), (3, [11]), (4, [11]), (5, [11]), (6, [11]), (7, [11]), (8, [11]), (9, [11]), (10, [11])] ?_
 iterate 11
  refine Nx.p (oi := ?_) (v := ?_) ?_ (by kernel_rfl) (fun _ _ _ h => h) ?_ ?_ hHeld ?_
  rotate_left 2
  ·simp only [List.getElem?_toArray, List.getElem?_cons_zero, List.getElem?_cons_succ]; rfl
  ·rfl
  ·intro _ hSw; (try dsimp only at hSw); go_simp <;> with_reducible rfl
  (try simp only [Act.put, List.setIfInBounds_toArray, List.set_cons_zero, List.set_cons_succ])
 refine Nx.stop ?_
 refine wpAnyL_last (o := ?_) (by kernel_rfl) ?_ (fun K hK => ?_)
 rotate_left 1
 ·simp only [List.getElem?_toArray, List.getElem?_cons_zero, List.getElem?_cons_succ]; rfl
 clear hHeld
 go_simp
 refine hK.out _ _ ?_
 clear hK K
 (try simp only [Act.put, List.setIfInBounds_toArray, List.set_cons_zero, List.set_cons_succ])
 refine wpAnyL_done (by kernel_rfl) ?_ _
 refine NoPanic.normal ?_
 go_upto_region 4 with fail
 refine wp_region_noPanic ?_
 refine wp_region_L (S := fun w' => w'.cell? ⟨mb, 2, none⟩ = some (.slice (some ⟨mbb, mo, none⟩) p.ms.length mc) ∧ w'.cell? ⟨fb, below.length * 4, none⟩ = some (.int .i64 f.m) ∧ w'.cell? ⟨fb, below.length * 4 + 1, none⟩ = some (.int .i64 f.pc) ∧ w'.cell? ⟨mbb, mo + f.m * 4 + 3, none⟩ = some (.slice (some ⟨xb, xo, none⟩) cl kc) ∧ w'.cell? ⟨xb, xo + f.pc * 4, none⟩ = some (.int .i64 op) ∧ w'.cell? ⟨xb, xo + f.pc * 4 + 1, none⟩ = some (.int .i64 ia) ∧ w'.cell? ⟨xb, xo + f.pc * 4 + 2, none⟩ = some (.int .i64 ib') ∧ w'.cell? ⟨xb, xo + f.pc * 4 + 3, none⟩ = some (.int .i64 ic)) 19 (by kernel_rfl) ?_ (fun hHeld => ?_)
 ·first | exact k0 | exact k1 _
 refine Nx.start [(0, [19]), (1, [19]), (2, [19]), (3, [19]), (4, [19]), (5, [19]), (6, [19]), (7, [19]), (8, [19]), (9, [19]), (10, [19]), (11, [19]), (12, [19]), (13, [19]), (14, [19]), (15, [19]), (16, [19]), (17, [19])] ?_
 iterate 18
  refine Nx.p (oi := ?_) (v := ?_) ?_ (by kernel_rfl) (fun _ _ _ h => h) ?_ ?_ hHeld ?_
  rotate_left 2
  ·simp only [List.getElem?_toArray, List.getElem?_cons_zero, List.getElem?_cons_succ]; rfl
  ·rfl
  ·intro _ hSw; (try dsimp only at hSw); go_simp <;> with_reducible rfl
  (try simp only [Act.put, List.setIfInBounds_toArray, List.set_cons_zero, List.set_cons_succ])
 refine Nx.stop ?_
 refine wpAnyL_one (i := 18) (o := ?_) (by kernel_rfl) ?_ (fun K hK => ?_)
 rotate_left 1
 ·simp only [List.getElem?_toArray, List.getElem?_cons_zero, List.getElem?_cons_succ]; rfl
 clear hHeld
 go_simp
 refine hK.out _ _ ?_ (fun hHeld => ?_)
 ·first | exact k0 | exact k1 _
 clear hK K
 (try simp only [Act.put, List.setIfInBounds_toArray, List.set_cons_zero, List.set_cons_succ])
 refine wpAnyL_last (o := ?_) (by kernel_rfl) ?_ (fun K hK => ?_)
 rotate_left 1
 ·simp only [List.getElem?_toArray, List.getElem?_cons_zero, List.getElem?_cons_succ]; rfl
 clear hHeld
 go_simp
 refine hK.out _ _ ?_
 clear hK K
 (try simp only [Act.put, List.setIfInBounds_toArray, List.set_cons_zero, List.set_cons_succ])
 refine wpAnyL_done (by kernel_rfl) ?_ _
 refine NoPanic.normal ?_
 clear k0 k1 m5 r0 r1 r2 r3 rz
 go_upto_region 5 with fail
 generalize (w.alloc (.cells #[.int .i64 op, .int .i64 ia, .int .i64 ib', .int .i64 ic] 29)).drew.drew = w4 at HU HBX ⊢
 generalize w.heap.size = bx at HBX ⊢
 have x0 : w4.cell? ⟨bx, 0, none⟩ = some (.int .i64 op) := by rw [cell_of HBX.out]; rfl
 have x1 : w4.cell? ⟨bx, 1, none⟩ = some (.int .i64 ia) := by rw [cell_of HBX.out]; rfl
 have x2 : w4.cell? ⟨bx, 2, none⟩ = some (.int .i64 ib') := by rw [cell_of HBX.out]; rfl
 have x3 : w4.cell? ⟨bx, 3, none⟩ = some (.int .i64 ic) := by rw [cell_of HBX.out]; rfl
 have H4 := Lib.hid (HH.out.new HU.out)
 have HJ := Lib.hid (mjump_any H4.out HV.out.ok HAT.out HF.out HFIN.out HFV.out hop hfl)
 rcases hop with rfl | rfl
 ·go_wp2_with fail
  refine HJ.out.mono ?_
  rintro e w5 ⟨rfl, h5⟩
  have hs5 : Stp B w w5 U R mb ib p (S.stepF p below f) := Stp.go (HU.out.mono (by simp)) h5
  clear h5
  have hen := hs5.ended
  obtain ⟨S5, h5e⟩ : ∃ S5, S.stepF p below f = S5 := ⟨_, rfl⟩
  rw [h5e] at hen hs5
  have HS5 := Lib.hid hs5
  have HE5 := Lib.hid h5e
  clear hs5 h5e
  cases hfe : S5.fin with
  | none =>
   rw [hfe] at hen
   have HFE := Lib.hid hfe
   clear hfe
   go_wp2_with fail
   go_ret
   rw [HE5.out, HFE.out]
   exact ⟨rfl, HS5.out⟩
  | some F =>
   rw [hfe] at hen
   have HFE := Lib.hid hfe
   clear hfe
   go_wp2_with fail
   go_ret
   rw [HE5.out, HFE.out]
   exact ⟨rfl, HS5.out⟩
 ·go_wp2_with fail
  refine HJ.out.mono ?_
  rintro e w5 ⟨rfl, h5⟩
  have hs5 : Stp B w w5 U R mb ib p (S.stepF p below f) := Stp.go (HU.out.mono (by simp)) h5
  clear h5
  have hen := hs5.ended
  obtain ⟨S5, h5e⟩ : ∃ S5, S.stepF p below f = S5 := ⟨_, rfl⟩
  rw [h5e] at hen hs5
  have HS5 := Lib.hid hs5
  have HE5 := Lib.hid h5e
  clear hs5 h5e
  cases hfe : S5.fin with
  | none =>
   rw [hfe] at hen
   have HFE := Lib.hid hfe
   clear hfe
   go_wp2_with fail
   go_ret
   rw [HE5.out, HFE.out]
   exact ⟨rfl, HS5.out⟩
  | some F =>
   rw [hfe] at hen
   have HFE := Lib.hid hfe
   clear hfe
   go_wp2_with fail
   go_ret
   rw [HE5.out, HFE.out]
   exact ⟨rfl, HS5.out⟩

set_option maxRecDepth 100000 in
set_option maxHeartbeats 4000000 in
theorem mstep_ret (h : MAt B w U R mb ib p S X) (v : Vf p ss) (hS : S.Ok p ss) (hf : S.frs = f :: below) (hfin : S.fin = none) (hop : (p.at_ f.m f.pc).op = 33) :
  Calls Tryd.prog 20 #[.pointer (some ⟨mb, 0, none⟩)] w fun e w' => e = .returned (.bool (S.step p).fin.isNone) ∧ Stp B w w' U R mb ib p (S.step p) := by
 obtain ⟨t, a⟩ := hS.at_ v.ok v.look v.bd hf
 generalize hxx : p.at_ f.m f.pc = x at a hop
 have hstep : S.step p = S.stepF p below f := Mc.step_on hfin hf
 rw [hstep]
 have hcode : (p.ms.getD f.m default).code.getD f.pc default = x := hxx
 obtain ⟨op, ia, ib', ic⟩ := x
 simp only at hop
 subst hop
 obtain ⟨g, gb, fb, c, hg, hgl, hfv, hc1, hc2, hR, hfq, q1, q2, _, _⟩ := h.top hf
 obtain ⟨mbb, mo, mc, ka, kc, hmU, hmv, _, _, _, q3, hco⟩ := h.methU a.fr.m
 obtain ⟨ca, cap, he, hl1, hl2, hcx⟩ := hco
 obtain ⟨xb, xo, hab, hbd, hins⟩ := hcx f.pc a.fr.pc
 injection he with e1 _ e3
 subst e1 e3 hab
 rw [hcode] at hins
 obtain ⟨x0, x1, x2, x3⟩ := hins
 have hmlt : (f.m : Int) < (p.ms.length : Int) := by have := a.fr.m; omega
 have hplt : (f.pc : Int) < ((p.ms.getD f.m default).code.length : Int) := by have := a.fr.pc; omega
 have q0 : w.cell? ⟨mb, 2, none⟩ = some (.slice (some ⟨mbb, mo, none⟩) p.ms.length mc) := h.boxc (congrArg some hmv)
 have m5 : w.cell? ⟨mb, 5, none⟩ = some (.slice (some ⟨fb, 0, none⟩) (below.length + 1) c) := h.boxc (congrArg some hfv)
 have m13 : w.cell? ⟨mb, 13, none⟩ = some (.bool false) := h.boxc (by rw [mccells, hfin]; rfl)
 have hbl : below.length + 1 ≤ 9223372036854775807 := by unfold maxLen at hc2; omega
 have s1 : IntKind.i64.wrap (((below.length + 1 : Nat) : Int) - 1) = (below.length : Int) := by rw [IntWalk.i64_in _ (by omega)]; omega
 have s0 : IntKind.i64.wrap (below.length : Int) = (below.length : Int) := IntWalk.i64_in _ (by omega)
 have hbl2 : (below.length : Int) < (below.length : Int) + 1 := by omega
 have hpb : f.pc < 1000 := by
  have h1 := v.ok.meth f.m a.fr.m
  unfold headCode at h1
  split at h1
  ·cases h1
  ·have := a.fr.pc; omega
 have hfl : f.stk.length ≤ 1000 := by have := hS.len v f (by rw [hf]; simp); omega
 have HH := Lib.hid h
 have HF := Lib.hid hf
 have HFIN := Lib.hid hfin
 have HFV := Lib.hid hfv
 have HAT := Lib.hid a
 have HV := Lib.hid v
 have HOK := Lib.hid hS
 have HCODE := Lib.hid hcode
 have HC2 := Lib.hid hc2
 clear h hf hfin hfv a v hS hcode hxx hstep hg hgl hR hfq hmv hmU hcx hl1 hl2 hbd hc1 hc2 HCODE
 generalize (p.ms.getD f.m default).code.length = cl at *
 have k0 : w.cell? ⟨mb, 2, none⟩ = some (.slice (some ⟨mbb, mo, none⟩) p.ms.length mc) ∧ w.cell? ⟨fb, below.length * 4, none⟩ = some (.int .i64 f.m) ∧ w.cell? ⟨fb, below.length * 4 + 1, none⟩ = some (.int .i64 f.pc) ∧ w.cell? ⟨mbb, mo + f.m * 4 + 3, none⟩ = some (.slice (some ⟨xb, xo, none⟩) cl kc) ∧ w.cell? ⟨xb, xo + f.pc * 4, none⟩ = some (.int .i64 33) ∧ w.cell? ⟨xb, xo + f.pc * 4 + 1, none⟩ = some (.int .i64 ia) ∧ w.cell? ⟨xb, xo + f.pc * 4 + 2, none⟩ = some (.int .i64 ib') ∧ w.cell? ⟨xb, xo + f.pc * 4 + 3, none⟩ = some (.int .i64 ic) := ⟨q0, q1, q2, q3, x0, x1, x2, x3⟩
 have k1 : ∀ O, (w.drew.drew.alloc O).cell? ⟨mb, 2, none⟩ = some (.slice (some ⟨mbb, mo, none⟩) p.ms.length mc) ∧ (w.drew.drew.alloc O).cell? ⟨fb, below.length * 4, none⟩ = some (.int .i64 f.m) ∧ (w.drew.drew.alloc O).cell? ⟨fb, below.length * 4 + 1, none⟩ = some (.int .i64 f.pc) ∧ (w.drew.drew.alloc O).cell? ⟨mbb, mo + f.m * 4 + 3, none⟩ = some (.slice (some ⟨xb, xo, none⟩) cl kc) ∧ (w.drew.drew.alloc O).cell? ⟨xb, xo + f.pc * 4, none⟩ = some (.int .i64 33) ∧ (w.drew.drew.alloc O).cell? ⟨xb, xo + f.pc * 4 + 1, none⟩ = some (.int .i64 ia) ∧ (w.drew.drew.alloc O).cell? ⟨xb, xo + f.pc * 4 + 2, none⟩ = some (.int .i64 ib') ∧ (w.drew.drew.alloc O).cell? ⟨xb, xo + f.pc * 4 + 3, none⟩ = some (.int .i64 ic) := fun O => by
  have hx := (((Upd.refl [] w).drew).drew).alloc O
  exact ⟨hx.cell q0 (by simp), hx.cell q1 (by simp), hx.cell q2 (by simp), hx.cell q3 (by simp), hx.cell x0 (by simp), hx.cell x1 (by simp), hx.cell x2 (by simp), hx.cell x3 (by simp)⟩
 have HNEW := Lib.hid (heap_alloc_new w.drew.drew (.cells #[.int .i64 0, .int .i64 0, .int .i64 0, .int .i64 0] 29))
 have r0 : (w.drew.drew.alloc (.cells #[.int .i64 0, .int .i64 0, .int .i64 0, .int .i64 0] 29)).cell? ⟨w.drew.drew.heap.size, 0, none⟩ = some (.int .i64 0) := by rw [cell_of HNEW.out]; rfl
 have r1 : (w.drew.drew.alloc (.cells #[.int .i64 0, .int .i64 0, .int .i64 0, .int .i64 0] 29)).cell? ⟨w.drew.drew.heap.size, 1, none⟩ = some (.int .i64 0) := by rw [cell_of HNEW.out]; rfl
 have r2 : (w.drew.drew.alloc (.cells #[.int .i64 0, .int .i64 0, .int .i64 0, .int .i64 0] 29)).cell? ⟨w.drew.drew.heap.size, 2, none⟩ = some (.int .i64 0) := by rw [cell_of HNEW.out]; rfl
 have r3 : (w.drew.drew.alloc (.cells #[.int .i64 0, .int .i64 0, .int .i64 0, .int .i64 0] 29)).cell? ⟨w.drew.drew.heap.size, 3, none⟩ = some (.int .i64 0) := by rw [cell_of HNEW.out]; rfl
 have rz := froz_of HNEW.out
 have HU : Hid (Upd [] w (w.alloc (.cells #[.int .i64 33, .int .i64 ia, .int .i64 ib', .int .i64 ic] 29)).drew.drew) := ((Upd.refl [] w).alloc _).drew.drew
 have HBX : Hid ((w.alloc (.cells #[.int .i64 33, .int .i64 ia, .int .i64 ib', .int .i64 ic] 29)).drew.drew.heap[w.heap.size]? = some (.cells #[.int .i64 33, .int .i64 ia, .int .i64 ib', .int .i64 ic] 29)) := heap_alloc_new w _
 clear q0 q1 q2 q3 x0 x1 x2 x3 HNEW
 go_enter Tryd.func20, Tryd.ntmps20
 go_upto_region 3 with fail
 refine wp_region_noPanic ?_
 refine wp_region_L (S := fun w' => w'.cell? ⟨mb, 5, none⟩ = some (.slice (some ⟨fb, 0, none⟩) (below.length + 1) c)) 11 (by kernel_rfl) ?_ (fun hHeld => ?_)
 ·exact m5
 refine Nx.start [(0, [11]), (1, [11]), (2, [11]), (3, [11]), (4, [11]), (5, [11]), (6, [11]), (7, [11]), (8, [11]), (9, [11]), (10, [11])] ?_
 iterate 11
  refine Nx.p (oi := ?_) (v := ?_) ?_ (by kernel_rfl) (fun _ _ _ h => h) ?_ ?_ hHeld ?_
  rotate_left 2
  ·simp only [List.getElem?_toArray, List.getElem?_cons_zero, List.getElem?_cons_succ]; rfl
  ·rfl
  ·intro _ hSw; (try dsimp only at hSw); go_simp <;> with_reducible rfl
  (try simp only [Act.put, List.setIfInBounds_toArray, List.set_cons_zero, List.set_cons_succ])
 refine Nx.stop ?_
 refine wpAnyL_last (o := ?_) (by kernel_rfl) ?_ (fun K hK => ?_)
 rotate_left 1
 ·simp only [List.getElem?_toArray, List.getElem?_cons_zero, List.getElem?_cons_succ]; rfl
 clear hHeld
 go_simp
 refine hK.out _ _ ?_
 clear hK K
 (try simp only [Act.put, List.setIfInBounds_toArray, List.set_cons_zero, List.set_cons_succ])
 refine wpAnyL_done (by kernel_rfl) ?_ _
 refine NoPanic.normal ?_
 go_upto_region 4 with fail
 refine wp_region_noPanic ?_
 refine wp_region_L (S := fun w' => w'.cell? ⟨mb, 2, none⟩ = some (.slice (some ⟨mbb, mo, none⟩) p.ms.length mc) ∧ w'.cell? ⟨fb, below.length * 4, none⟩ = some (.int .i64 f.m) ∧ w'.cell? ⟨fb, below.length * 4 + 1, none⟩ = some (.int .i64 f.pc) ∧ w'.cell? ⟨mbb, mo + f.m * 4 + 3, none⟩ = some (.slice (some ⟨xb, xo, none⟩) cl kc) ∧ w'.cell? ⟨xb, xo + f.pc * 4, none⟩ = some (.int .i64 33) ∧ w'.cell? ⟨xb, xo + f.pc * 4 + 1, none⟩ = some (.int .i64 ia) ∧ w'.cell? ⟨xb, xo + f.pc * 4 + 2, none⟩ = some (.int .i64 ib') ∧ w'.cell? ⟨xb, xo + f.pc * 4 + 3, none⟩ = some (.int .i64 ic)) 19 (by kernel_rfl) ?_ (fun hHeld => ?_)
 ·first | exact k0 | exact k1 _
 refine Nx.start [(0, [19]), (1, [19]), (2, [19]), (3, [19]), (4, [19]), (5, [19]), (6, [19]), (7, [19]), (8, [19]), (9, [19]), (10, [19]), (11, [19]), (12, [19]), (13, [19]), (14, [19]), (15, [19]), (16, [19]), (17, [19])] ?_
 iterate 18
  refine Nx.p (oi := ?_) (v := ?_) ?_ (by kernel_rfl) (fun _ _ _ h => h) ?_ ?_ hHeld ?_
  rotate_left 2
  ·simp only [List.getElem?_toArray, List.getElem?_cons_zero, List.getElem?_cons_succ]; rfl
  ·rfl
  ·intro _ hSw; (try dsimp only at hSw); go_simp <;> with_reducible rfl
  (try simp only [Act.put, List.setIfInBounds_toArray, List.set_cons_zero, List.set_cons_succ])
 refine Nx.stop ?_
 refine wpAnyL_one (i := 18) (o := ?_) (by kernel_rfl) ?_ (fun K hK => ?_)
 rotate_left 1
 ·simp only [List.getElem?_toArray, List.getElem?_cons_zero, List.getElem?_cons_succ]; rfl
 clear hHeld
 go_simp
 refine hK.out _ _ ?_ (fun hHeld => ?_)
 ·first | exact k0 | exact k1 _
 clear hK K
 (try simp only [Act.put, List.setIfInBounds_toArray, List.set_cons_zero, List.set_cons_succ])
 refine wpAnyL_last (o := ?_) (by kernel_rfl) ?_ (fun K hK => ?_)
 rotate_left 1
 ·simp only [List.getElem?_toArray, List.getElem?_cons_zero, List.getElem?_cons_succ]; rfl
 clear hHeld
 go_simp
 refine hK.out _ _ ?_
 clear hK K
 (try simp only [Act.put, List.setIfInBounds_toArray, List.set_cons_zero, List.set_cons_succ])
 refine wpAnyL_done (by kernel_rfl) ?_ _
 refine NoPanic.normal ?_
 clear k0 k1 m5 r0 r1 r2 r3 rz
 go_upto_region 5 with fail
 generalize (w.alloc (.cells #[.int .i64 33, .int .i64 ia, .int .i64 ib', .int .i64 ic] 29)).drew.drew = w4 at HU HBX ⊢
 generalize w.heap.size = bx at HBX ⊢
 have x0 : w4.cell? ⟨bx, 0, none⟩ = some (.int .i64 33) := by rw [cell_of HBX.out]; rfl
 have x1 : w4.cell? ⟨bx, 1, none⟩ = some (.int .i64 ia) := by rw [cell_of HBX.out]; rfl
 have x2 : w4.cell? ⟨bx, 2, none⟩ = some (.int .i64 ib') := by rw [cell_of HBX.out]; rfl
 have x3 : w4.cell? ⟨bx, 3, none⟩ = some (.int .i64 ic) := by rw [cell_of HBX.out]; rfl
 have H4 := Lib.hid (HH.out.new HU.out)
 have HJ := Lib.hid (mret_any H4.out HAT.out HF.out HFIN.out HFV.out rfl (fun g hg => by have := HOK.out.len HV.out g hg; omega))
 go_wp2_with fail
 refine HJ.out.mono ?_
 rintro e w5 ⟨rfl, h5⟩
 have hs5 : Stp B w w5 U R mb ib p (S.stepF p below f) := Stp.go (HU.out.mono (by simp)) h5
 clear h5
 have hen := hs5.ended
 obtain ⟨S5, h5e⟩ : ∃ S5, S.stepF p below f = S5 := ⟨_, rfl⟩
 rw [h5e] at hen hs5
 have HS5 := Lib.hid hs5
 have HE5 := Lib.hid h5e
 clear hs5 h5e
 cases hfe : S5.fin with
 | none =>
  rw [hfe] at hen
  have HFE := Lib.hid hfe
  clear hfe
  go_wp2_with fail
  go_ret
  rw [HE5.out, HFE.out]
  exact ⟨rfl, HS5.out⟩
 | some F =>
  rw [hfe] at hen
  have HFE := Lib.hid hfe
  clear hfe
  go_wp2_with fail
  go_ret
  rw [HE5.out, HFE.out]
  exact ⟨rfl, HS5.out⟩

end
end Go.Proofs.YtojobkhidlfeoaaDoor

/-! model: Machine.Step: a plain instruction. -/
namespace Go.Proofs.YtojobkhidlfeoaaDoor
open Go.RowKit

def Nz (a : Mact) : Prop := ∀ t, a = .trap t → t ≠ 0
theorem nz_if {c : Prop} [Decidable c] {a b : Mact} (ha : c → Nz a) (hb : ¬ c → Nz b) : Nz (if c then a else b) := by
 by_cases hc : c
 ·rw [if_pos hc]; exact ha hc
 ·rw [if_neg hc]; exact hb hc
theorem nz_go {l s : List Vl} {o : List Ob} {i u : List Int} : Nz (.go l s o i u) := fun t h => by cases h
theorem nz_trap {t : Int} (h : t ≠ 0) : Nz (.trap t) := fun u e => by
 injection e with e
 rw [← e]
 exact h
theorem touch_nz (S : Mc) (f : Fm) (x : Ins) : Nz (S.touch f x) := by
 unfold Mc.touch
 simp only
 repeat' first | exact nz_go | exact nz_trap (by decide) | refine nz_if (fun _ => ?_) (fun _ => ?_)
theorem plain_nz (p : Prg) (S : Mc) (f : Fm) (x : Ins) : Nz (S.plain p f x) := by
 unfold Mc.plain
 simp only
 repeat' first | exact nz_go | exact nz_trap (by decide) | exact touch_nz _ _ _ | exact nz_trap (by assumption) | refine nz_if (fun _ => ?_) (fun _ => ?_)
 split
 ·exact nz_trap (by decide)
 ·exact nz_go
section
variable {B : Nat} {w w1 w2 : World} {U R : List Nat} {mb ib : Nat} {p : Prg} {S S' : Mc} {X : MX} {f : Fm} {below : List Fm} {ss : List Lk}

set_option maxRecDepth 100000 in
set_option maxHeartbeats 4000000 in
theorem mstep_plain (h : MAt B w U R mb ib p S X) (v : Vf p ss) (hS : S.Ok p ss) (hf : S.frs = f :: below) (hfin : S.fin = none) (hop : (p.at_ f.m f.pc).op ≠ 22 ∧ (p.at_ f.m f.pc).op ≠ 23 ∧ (p.at_ f.m f.pc).op ≠ 32 ∧ (p.at_ f.m f.pc).op ≠ 33) :
  Calls Tryd.prog 20 #[.pointer (some ⟨mb, 0, none⟩)] w fun e w' => e = .returned (.bool (S.step p).fin.isNone) ∧ Stp B w w' U R mb ib p (S.step p) := by
 obtain ⟨t, a⟩ := hS.at_ v.ok v.look v.bd hf
 generalize hxx : p.at_ f.m f.pc = x at a hop
 have hstep : S.step p = S.stepF p below f := Mc.step_on hfin hf
 rw [hstep]
 have hcode : (p.ms.getD f.m default).code.getD f.pc default = x := hxx
 obtain ⟨op, ia, ib', ic⟩ := x
 simp only at hop
 obtain ⟨n22, n23, n32, n33⟩ := hop
 have hn22 : ¬ op = 22 := n22
 have hn23 : ¬ op = 23 := n23
 have hn32 : ¬ op = 32 := n32
 have hn33 : ¬ op = 33 := n33
 obtain ⟨g, gb, fb, c, hg, hgl, hfv, hc1, hc2, hR, hfq, q1, q2, _, _⟩ := h.top hf
 obtain ⟨mbb, mo, mc, ka, kc, hmU, hmv, _, _, _, q3, hco⟩ := h.methU a.fr.m
 obtain ⟨ca, cap, he, hl1, hl2, hcx⟩ := hco
 obtain ⟨xb, xo, hab, hbd, hins⟩ := hcx f.pc a.fr.pc
 injection he with e1 _ e3
 subst e1 e3 hab
 rw [hcode] at hins
 obtain ⟨x0, x1, x2, x3⟩ := hins
 have hmlt : (f.m : Int) < (p.ms.length : Int) := by have := a.fr.m; omega
 have hplt : (f.pc : Int) < ((p.ms.getD f.m default).code.length : Int) := by have := a.fr.pc; omega
 have q0 : w.cell? ⟨mb, 2, none⟩ = some (.slice (some ⟨mbb, mo, none⟩) p.ms.length mc) := h.boxc (congrArg some hmv)
 have m5 : w.cell? ⟨mb, 5, none⟩ = some (.slice (some ⟨fb, 0, none⟩) (below.length + 1) c) := h.boxc (congrArg some hfv)
 have m13 : w.cell? ⟨mb, 13, none⟩ = some (.bool false) := h.boxc (by rw [mccells, hfin]; rfl)
 have hbl : below.length + 1 ≤ 9223372036854775807 := by unfold maxLen at hc2; omega
 have s1 : IntKind.i64.wrap (((below.length + 1 : Nat) : Int) - 1) = (below.length : Int) := by rw [IntWalk.i64_in _ (by omega)]; omega
 have s0 : IntKind.i64.wrap (below.length : Int) = (below.length : Int) := IntWalk.i64_in _ (by omega)
 have hbl2 : (below.length : Int) < (below.length : Int) + 1 := by omega
 have hpb : f.pc < 1000 := by
  have h1 := v.ok.meth f.m a.fr.m
  unfold headCode at h1
  split at h1
  ·cases h1
  ·have := a.fr.pc; omega
 have hfl : f.stk.length ≤ 1000 := by have := hS.len v f (by rw [hf]; simp); omega
 have HH := Lib.hid h
 have HF := Lib.hid hf
 have HFIN := Lib.hid hfin
 have HFV := Lib.hid hfv
 have HAT := Lib.hid a
 have HV := Lib.hid v
 have HOK := Lib.hid hS
 have HCODE := Lib.hid hcode
 have HC2 := Lib.hid hc2
 clear h hf hfin hfv a v hS hcode hxx hstep hg hgl hR hfq hmv hmU hcx hl1 hl2 hbd hc1 hc2 HCODE
 generalize (p.ms.getD f.m default).code.length = cl at *
 have k0 : w.cell? ⟨mb, 2, none⟩ = some (.slice (some ⟨mbb, mo, none⟩) p.ms.length mc) ∧ w.cell? ⟨fb, below.length * 4, none⟩ = some (.int .i64 f.m) ∧ w.cell? ⟨fb, below.length * 4 + 1, none⟩ = some (.int .i64 f.pc) ∧ w.cell? ⟨mbb, mo + f.m * 4 + 3, none⟩ = some (.slice (some ⟨xb, xo, none⟩) cl kc) ∧ w.cell? ⟨xb, xo + f.pc * 4, none⟩ = some (.int .i64 op) ∧ w.cell? ⟨xb, xo + f.pc * 4 + 1, none⟩ = some (.int .i64 ia) ∧ w.cell? ⟨xb, xo + f.pc * 4 + 2, none⟩ = some (.int .i64 ib') ∧ w.cell? ⟨xb, xo + f.pc * 4 + 3, none⟩ = some (.int .i64 ic) := ⟨q0, q1, q2, q3, x0, x1, x2, x3⟩
 have k1 : ∀ O, (w.drew.drew.alloc O).cell? ⟨mb, 2, none⟩ = some (.slice (some ⟨mbb, mo, none⟩) p.ms.length mc) ∧ (w.drew.drew.alloc O).cell? ⟨fb, below.length * 4, none⟩ = some (.int .i64 f.m) ∧ (w.drew.drew.alloc O).cell? ⟨fb, below.length * 4 + 1, none⟩ = some (.int .i64 f.pc) ∧ (w.drew.drew.alloc O).cell? ⟨mbb, mo + f.m * 4 + 3, none⟩ = some (.slice (some ⟨xb, xo, none⟩) cl kc) ∧ (w.drew.drew.alloc O).cell? ⟨xb, xo + f.pc * 4, none⟩ = some (.int .i64 op) ∧ (w.drew.drew.alloc O).cell? ⟨xb, xo + f.pc * 4 + 1, none⟩ = some (.int .i64 ia) ∧ (w.drew.drew.alloc O).cell? ⟨xb, xo + f.pc * 4 + 2, none⟩ = some (.int .i64 ib') ∧ (w.drew.drew.alloc O).cell? ⟨xb, xo + f.pc * 4 + 3, none⟩ = some (.int .i64 ic) := fun O => by
  have hx := (((Upd.refl [] w).drew).drew).alloc O
  exact ⟨hx.cell q0 (by simp), hx.cell q1 (by simp), hx.cell q2 (by simp), hx.cell q3 (by simp), hx.cell x0 (by simp), hx.cell x1 (by simp), hx.cell x2 (by simp), hx.cell x3 (by simp)⟩
 have HNEW := Lib.hid (heap_alloc_new w.drew.drew (.cells #[.int .i64 0, .int .i64 0, .int .i64 0, .int .i64 0] 29))
 have r0 : (w.drew.drew.alloc (.cells #[.int .i64 0, .int .i64 0, .int .i64 0, .int .i64 0] 29)).cell? ⟨w.drew.drew.heap.size, 0, none⟩ = some (.int .i64 0) := by rw [cell_of HNEW.out]; rfl
 have r1 : (w.drew.drew.alloc (.cells #[.int .i64 0, .int .i64 0, .int .i64 0, .int .i64 0] 29)).cell? ⟨w.drew.drew.heap.size, 1, none⟩ = some (.int .i64 0) := by rw [cell_of HNEW.out]; rfl
 have r2 : (w.drew.drew.alloc (.cells #[.int .i64 0, .int .i64 0, .int .i64 0, .int .i64 0] 29)).cell? ⟨w.drew.drew.heap.size, 2, none⟩ = some (.int .i64 0) := by rw [cell_of HNEW.out]; rfl
 have r3 : (w.drew.drew.alloc (.cells #[.int .i64 0, .int .i64 0, .int .i64 0, .int .i64 0] 29)).cell? ⟨w.drew.drew.heap.size, 3, none⟩ = some (.int .i64 0) := by rw [cell_of HNEW.out]; rfl
 have rz := froz_of HNEW.out
 have HU : Hid (Upd [] w (w.alloc (.cells #[.int .i64 op, .int .i64 ia, .int .i64 ib', .int .i64 ic] 29)).drew.drew) := ((Upd.refl [] w).alloc _).drew.drew
 have HBX : Hid ((w.alloc (.cells #[.int .i64 op, .int .i64 ia, .int .i64 ib', .int .i64 ic] 29)).drew.drew.heap[w.heap.size]? = some (.cells #[.int .i64 op, .int .i64 ia, .int .i64 ib', .int .i64 ic] 29)) := heap_alloc_new w _
 clear q0 q1 q2 q3 x0 x1 x2 x3 HNEW
 go_enter Tryd.func20, Tryd.ntmps20
 go_upto_region 3 with fail
 refine wp_region_noPanic ?_
 refine wp_region_L (S := fun w' => w'.cell? ⟨mb, 5, none⟩ = some (.slice (some ⟨fb, 0, none⟩) (below.length + 1) c)) 11 (by kernel_rfl) ?_ (fun hHeld => ?_)
 ·exact m5
 refine Nx.start [(0, [11]), (1, [11]), (2, [11]), (3, [11]), (4, [11]), (5, [11]), (6, [11]), (7, [11]), (8, [11]), (9, [11]), (10, [11])] ?_
 iterate 11
  refine Nx.p (oi := ?_) (v := ?_) ?_ (by kernel_rfl) (fun _ _ _ h => h) ?_ ?_ hHeld ?_
  rotate_left 2
  ·simp only [List.getElem?_toArray, List.getElem?_cons_zero, List.getElem?_cons_succ]; rfl
  ·rfl
  ·intro _ hSw; (try dsimp only at hSw); go_simp <;> with_reducible rfl
  (try simp only [Act.put, List.setIfInBounds_toArray, List.set_cons_zero, List.set_cons_succ])
 refine Nx.stop ?_
 refine wpAnyL_last (o := ?_) (by kernel_rfl) ?_ (fun K hK => ?_)
 rotate_left 1
 ·simp only [List.getElem?_toArray, List.getElem?_cons_zero, List.getElem?_cons_succ]; rfl
 clear hHeld
 go_simp
 refine hK.out _ _ ?_
 clear hK K
 (try simp only [Act.put, List.setIfInBounds_toArray, List.set_cons_zero, List.set_cons_succ])
 refine wpAnyL_done (by kernel_rfl) ?_ _
 refine NoPanic.normal ?_
 go_upto_region 4 with fail
 refine wp_region_noPanic ?_
 refine wp_region_L (S := fun w' => w'.cell? ⟨mb, 2, none⟩ = some (.slice (some ⟨mbb, mo, none⟩) p.ms.length mc) ∧ w'.cell? ⟨fb, below.length * 4, none⟩ = some (.int .i64 f.m) ∧ w'.cell? ⟨fb, below.length * 4 + 1, none⟩ = some (.int .i64 f.pc) ∧ w'.cell? ⟨mbb, mo + f.m * 4 + 3, none⟩ = some (.slice (some ⟨xb, xo, none⟩) cl kc) ∧ w'.cell? ⟨xb, xo + f.pc * 4, none⟩ = some (.int .i64 op) ∧ w'.cell? ⟨xb, xo + f.pc * 4 + 1, none⟩ = some (.int .i64 ia) ∧ w'.cell? ⟨xb, xo + f.pc * 4 + 2, none⟩ = some (.int .i64 ib') ∧ w'.cell? ⟨xb, xo + f.pc * 4 + 3, none⟩ = some (.int .i64 ic)) 19 (by kernel_rfl) ?_ (fun hHeld => ?_)
 ·first | exact k0 | exact k1 _
 refine Nx.start [(0, [19]), (1, [19]), (2, [19]), (3, [19]), (4, [19]), (5, [19]), (6, [19]), (7, [19]), (8, [19]), (9, [19]), (10, [19]), (11, [19]), (12, [19]), (13, [19]), (14, [19]), (15, [19]), (16, [19]), (17, [19])] ?_
 iterate 18
  refine Nx.p (oi := ?_) (v := ?_) ?_ (by kernel_rfl) (fun _ _ _ h => h) ?_ ?_ hHeld ?_
  rotate_left 2
  ·simp only [List.getElem?_toArray, List.getElem?_cons_zero, List.getElem?_cons_succ]; rfl
  ·rfl
  ·intro _ hSw; (try dsimp only at hSw); go_simp <;> with_reducible rfl
  (try simp only [Act.put, List.setIfInBounds_toArray, List.set_cons_zero, List.set_cons_succ])
 refine Nx.stop ?_
 refine wpAnyL_one (i := 18) (o := ?_) (by kernel_rfl) ?_ (fun K hK => ?_)
 rotate_left 1
 ·simp only [List.getElem?_toArray, List.getElem?_cons_zero, List.getElem?_cons_succ]; rfl
 clear hHeld
 go_simp
 refine hK.out _ _ ?_ (fun hHeld => ?_)
 ·first | exact k0 | exact k1 _
 clear hK K
 (try simp only [Act.put, List.setIfInBounds_toArray, List.set_cons_zero, List.set_cons_succ])
 refine wpAnyL_last (o := ?_) (by kernel_rfl) ?_ (fun K hK => ?_)
 rotate_left 1
 ·simp only [List.getElem?_toArray, List.getElem?_cons_zero, List.getElem?_cons_succ]; rfl
 clear hHeld
 go_simp
 refine hK.out _ _ ?_
 clear hK K
 (try simp only [Act.put, List.setIfInBounds_toArray, List.set_cons_zero, List.set_cons_succ])
 refine wpAnyL_done (by kernel_rfl) ?_ _
 refine NoPanic.normal ?_
 clear k0 k1 m5 r0 r1 r2 r3 rz
 go_upto_region 5 with fail
 generalize (w.alloc (.cells #[.int .i64 op, .int .i64 ia, .int .i64 ib', .int .i64 ic] 29)).drew.drew = w4 at HU HBX ⊢
 generalize w.heap.size = bx at HBX ⊢
 have x0 : w4.cell? ⟨bx, 0, none⟩ = some (.int .i64 op) := by rw [cell_of HBX.out]; rfl
 have x1 : w4.cell? ⟨bx, 1, none⟩ = some (.int .i64 ia) := by rw [cell_of HBX.out]; rfl
 have x2 : w4.cell? ⟨bx, 2, none⟩ = some (.int .i64 ib') := by rw [cell_of HBX.out]; rfl
 have x3 : w4.cell? ⟨bx, 3, none⟩ = some (.int .i64 ic) := by rw [cell_of HBX.out]; rfl
 have H4 := Lib.hid (HH.out.new HU.out)
 have HP := Lib.hid (mplain_any H4.out HV.out.ok HAT.out HF.out HFV.out hfl n22 n23 n32 n33)
 have hsf : S.stepF p below f = match S.plain p f ⟨op, ia, ib', ic⟩ with
  | .trap t => S.stop 2 t f
  | .go loc stk objs inp out => { S with frs := ⟨f.m, f.pc + 1, loc, stk⟩ :: below, objs := objs, inp := inp, out := out } := by
  unfold Mc.stepF
  simp only
  rw [← HAT.out.xe, if_neg (by simp only; omega), if_neg n32, if_neg n33]
  cases S.plain p f ⟨op, ia, ib', ic⟩ <;> rfl
 have hnz := plain_nz p S f ⟨op, ia, ib', ic⟩
 have HSF := Lib.hid hsf
 have HNZ := Lib.hid hnz
 clear hsf hnz
 cases hpl : S.plain p f ⟨op, ia, ib', ic⟩ with
 | trap k =>
  have HPL := Lib.hid hpl
  have hk : ¬ k = 0 := HNZ.out k hpl
  clear hpl
  go_wp2_with fail
  refine HP.out.mono ?_
  rintro e w5 ⟨he, ⟨X5, h5, h5v⟩, hu5⟩
  rw [HPL.out] at he h5
  have he2 : e = .returned (.int .i64 k) := he
  subst he2
  clear he
  have HE := Lib.hid (mend_any 2 k h5 HF.out HFIN.out)
  have HU5 := Lib.hid hu5
  have HUB := Lib.hid (h5.mine)
  clear h5 h5v hu5
  go_wp2_with fail
  refine HE.out.mono ?_
  rintro e w6 ⟨rfl, h6, hu6⟩
  have hs5 : Stp B w w6 U R mb ib p (S.stepF p below f) := by
   rw [HSF.out, HPL.out]
   refine Stp.go (HU.out.mono (by simp)) (Stp.go HU5.out ⟨⟨X5, h6⟩, hu6.mono (fun b hb _ => ?_)⟩)
   rw [List.mem_singleton] at hb
   rw [hb]
   exact HUB.out
  clear h6 hu6
  have hen := hs5.ended
  obtain ⟨S5, h5e⟩ : ∃ S5, S.stepF p below f = S5 := ⟨_, rfl⟩
  rw [h5e] at hen hs5
  have HS5 := Lib.hid hs5
  have HE5 := Lib.hid h5e
  clear hs5 h5e
  cases hfe : S5.fin with
  | none =>
   rw [hfe] at hen
   have HFE := Lib.hid hfe
   clear hfe
   go_wp2_with fail
   go_ret
   rw [HE5.out, HFE.out]
   exact ⟨rfl, HS5.out⟩
  | some F =>
   rw [hfe] at hen
   have HFE := Lib.hid hfe
   clear hfe
   go_wp2_with fail
   go_ret
   rw [HE5.out, HFE.out]
   exact ⟨rfl, HS5.out⟩
 | go loc stk objs inp out =>
  have HPL := Lib.hid hpl
  clear hpl
  go_wp2_with fail
  refine HP.out.mono ?_
  rintro e w5 ⟨he, ⟨X5, h5, h5v⟩, hu5⟩
  rw [HPL.out] at he h5
  have he2 : e = .returned (.int .i64 0) := he
  subst he2
  clear he
  obtain ⟨g5, gb5, fb5, c5, hg5, _, hfv5, _, _, hR5, hfq5, _, y1, _, _⟩ := h5.top (f := ⟨f.m, f.pc, loc, stk⟩) (below := below) rfl
  rw [h5v, HFV.out] at hfv5
  injection hfv5 with e1 _ e3
  injection e1 with e1
  injection e1 with e1
  subst e1 e3
  obtain ⟨q5, hq5⟩ := hfq5
  have z1 := froz_of hq5 (below.length * 4 + 1)
  have HSP := Lib.hid (h5.setPc (f := ⟨f.m, f.pc, loc, stk⟩) (below := below) rfl hg5 (h5v.trans HFV.out) (f.pc + 1))
  have HU5 := Lib.hid hu5
  have HR5 : Hid (fb ∈ R ++ news w w4) := by
   have h6 := H4.out.own fb (.inl (by rw [HFV.out]; rfl))
   exact h6
  have spc : IntKind.i64.wrap ((f.pc : Int) + 1) = (f.pc : Int) + 1 := by rw [IntWalk.i64_in _ (by omega)]
  have spc2 : (((f.pc + 1 : Nat) : Int)) = (f.pc : Int) + 1 := by omega
  rw [spc2] at HSP
  clear h5 h5v hu5 hg5 hR5 hq5 spc2
  have hs5 : Stp B w (w5.setCell ⟨fb, below.length * 4 + 1, none⟩ (.int .i64 ((f.pc : Int) + 1))) U R mb ib p (S.stepF p below f) := by
   rw [HSF.out, HPL.out]
   refine Stp.go (HU.out.mono (by simp)) ⟨⟨X5, ?_⟩, ?_⟩
   ·rw [news_same (size_set w5 _ _)]
    exact HSP.out.1
   ·exact HU5.out.trans' HSP.out.2 (fun b hb _ => by
     rw [List.mem_singleton] at hb
     rw [hb]
     exact HR5.out)
  go_upto_region 22 with fail
  generalize w5.setCell ⟨fb, below.length * 4 + 1, none⟩ (.int .i64 ((f.pc : Int) + 1)) = w6 at hs5 ⊢
  clear y1 z1
  have hen := hs5.ended
  obtain ⟨S5, h5e⟩ : ∃ S5, S.stepF p below f = S5 := ⟨_, rfl⟩
  rw [h5e] at hen hs5
  have HS5 := Lib.hid hs5
  have HE5 := Lib.hid h5e
  clear hs5 h5e
  cases hfe : S5.fin with
  | none =>
   rw [hfe] at hen
   have HFE := Lib.hid hfe
   clear hfe
   go_wp2_with fail
   go_ret
   rw [HE5.out, HFE.out]
   exact ⟨rfl, HS5.out⟩
  | some F =>
   rw [hfe] at hen
   have HFE := Lib.hid hfe
   clear hfe
   go_wp2_with fail
   go_ret
   rw [HE5.out, HFE.out]
   exact ⟨rfl, HS5.out⟩

end
end Go.Proofs.YtojobkhidlfeoaaDoor

/-! model: Machine.Step: a call; any step. -/
namespace Go.Proofs.YtojobkhidlfeoaaDoor
open Go.RowKit

theorem VlV.drop {w : World} {v : Value} {b o : Nat} {xs : List Vl} (h : VlV w v b o xs) (k : Nat) {q : Option Addr} (c' : Nat) (hq : xs.drop k ≠ [] → q = some ⟨b, o + k * 2, none⟩) : VlV w (.slice q (xs.drop k).length c') b (o + k * 2) (xs.drop k) := by
 refine ⟨⟨q, c', rfl, hq⟩, fun i hi => ?_⟩
 rw [List.length_drop] at hi
 have h1 := h.2 (k + i) (by omega)
 have e : (xs.drop k).getD i default = xs.getD (k + i) default := by
  rw [List.getD_eq_getElem?_getD, List.getD_eq_getElem?_getD, List.getElem?_drop]
 rw [e, show o + k * 2 + i * 2 = o + (k + i) * 2 by omega]
 exact h1
section
variable {B : Nat} {w w1 w2 : World} {U R : List Nat} {mb ib : Nat} {p : Prg} {S S' : Mc} {X : MX} {f : Fm} {below : List Fm} {ss : List Lk}

set_option maxRecDepth 100000 in
set_option maxHeartbeats 4000000 in
theorem mstep_call (h : MAt B w U R mb ib p S X) (v : Vf p ss) (hS : S.Ok p ss) (hf : S.frs = f :: below) (hfin : S.fin = none) (hop : (p.at_ f.m f.pc).op = 32) :
  Calls Tryd.prog 20 #[.pointer (some ⟨mb, 0, none⟩)] w fun e w' => e = .returned (.bool (S.step p).fin.isNone) ∧ Stp B w w' U R mb ib p (S.step p) := by
 obtain ⟨t, a⟩ := hS.at_ v.ok v.look v.bd hf
 generalize hxx : p.at_ f.m f.pc = x at a hop
 have hstep : S.step p = S.stepF p below f := Mc.step_on hfin hf
 rw [hstep]
 have hcode : (p.ms.getD f.m default).code.getD f.pc default = x := hxx
 obtain ⟨op, ia, ib', ic⟩ := x
 simp only at hop
 subst hop
 have hcl := a.ins.call rfl
 have hcl1 : 1 ≤ ia := hcl.1
 have hcl2 : ia < p.ms.length := hcl.2
 obtain ⟨j, rfl⟩ : ∃ j : Nat, ia = (j : Int) := ⟨ia.toNat, by omega⟩
 have hjm : j < p.ms.length := by omega
 have hjm2 : (j : Int) < (p.ms.length : Int) := hcl2
 have hks : (p.ms.getD j default).params.size ≤ f.stk.length := by
  have he : effL p (p.ms.getD f.m default) ⟨32, j, ib', ic⟩ = some ((p.ms.getD j default).params.toList, (p.ms.getD j default).ret.toList) := by
   unfold effL
   simp (decide := true) only [↓reduceIte]
   rw [if_pos ⟨by omega, hcl2⟩, Int.toNat_natCast]
  have h1 := (a.eff (show (32 : Int) ≠ 5 by decide) (show (32 : Int) ≠ 6 by decide) (show (32 : Int) ≠ 7 by decide) he).1
  rw [← size_list] at h1
  exact h1
 obtain ⟨g, gb, fb, c, hg, hgl, hfv, hc1, hc2, hR, hfq, q1, q2, _, _⟩ := h.top hf
 obtain ⟨mbb, mo, mc, ka, kc, hmU, hmv, _, _, _, q3, hco⟩ := h.methU a.fr.m
 obtain ⟨ca, cap, he, hl1, hl2, hcx⟩ := hco
 obtain ⟨xb, xo, hab, hbd, hins⟩ := hcx f.pc a.fr.pc
 injection he with e1 _ e3
 subst e1 e3 hab
 rw [hcode] at hins
 obtain ⟨x0, x1, x2, x3⟩ := hins
 have hmlt : (f.m : Int) < (p.ms.length : Int) := by have := a.fr.m; omega
 have hplt : (f.pc : Int) < ((p.ms.getD f.m default).code.length : Int) := by have := a.fr.pc; omega
 have q0 : w.cell? ⟨mb, 2, none⟩ = some (.slice (some ⟨mbb, mo, none⟩) p.ms.length mc) := h.boxc (congrArg some hmv)
 have m5 : w.cell? ⟨mb, 5, none⟩ = some (.slice (some ⟨fb, 0, none⟩) (below.length + 1) c) := h.boxc (congrArg some hfv)
 have m13 : w.cell? ⟨mb, 13, none⟩ = some (.bool false) := h.boxc (by rw [mccells, hfin]; rfl)
 have hbl : below.length + 1 ≤ 9223372036854775807 := by unfold maxLen at hc2; omega
 have s1 : IntKind.i64.wrap (((below.length + 1 : Nat) : Int) - 1) = (below.length : Int) := by rw [IntWalk.i64_in _ (by omega)]; omega
 have s0 : IntKind.i64.wrap (below.length : Int) = (below.length : Int) := IntWalk.i64_in _ (by omega)
 have hbl2 : (below.length : Int) < (below.length : Int) + 1 := by omega
 have hpb : f.pc < 1000 := by
  have h1 := v.ok.meth f.m a.fr.m
  unfold headCode at h1
  split at h1
  ·cases h1
  ·have := a.fr.pc; omega
 have hfl : f.stk.length ≤ 1000 := by have := hS.len v f (by rw [hf]; simp); omega
 have HH := Lib.hid h
 have HF := Lib.hid hf
 have HFIN := Lib.hid hfin
 have HFV := Lib.hid hfv
 have HAT := Lib.hid a
 have HV := Lib.hid v
 have HOK := Lib.hid hS
 have HCODE := Lib.hid hcode
 have HC2 := Lib.hid hc2
 clear h hf hfin hfv a v hS hcode hxx hstep hg hgl hR hfq hmv hmU hcx hl1 hl2 hbd hc1 hc2 HCODE
 generalize (p.ms.getD f.m default).code.length = cl at *
 have k0 : w.cell? ⟨mb, 2, none⟩ = some (.slice (some ⟨mbb, mo, none⟩) p.ms.length mc) ∧ w.cell? ⟨fb, below.length * 4, none⟩ = some (.int .i64 f.m) ∧ w.cell? ⟨fb, below.length * 4 + 1, none⟩ = some (.int .i64 f.pc) ∧ w.cell? ⟨mbb, mo + f.m * 4 + 3, none⟩ = some (.slice (some ⟨xb, xo, none⟩) cl kc) ∧ w.cell? ⟨xb, xo + f.pc * 4, none⟩ = some (.int .i64 32) ∧ w.cell? ⟨xb, xo + f.pc * 4 + 1, none⟩ = some (.int .i64 j) ∧ w.cell? ⟨xb, xo + f.pc * 4 + 2, none⟩ = some (.int .i64 ib') ∧ w.cell? ⟨xb, xo + f.pc * 4 + 3, none⟩ = some (.int .i64 ic) := ⟨q0, q1, q2, q3, x0, x1, x2, x3⟩
 have k1 : ∀ O, (w.drew.drew.alloc O).cell? ⟨mb, 2, none⟩ = some (.slice (some ⟨mbb, mo, none⟩) p.ms.length mc) ∧ (w.drew.drew.alloc O).cell? ⟨fb, below.length * 4, none⟩ = some (.int .i64 f.m) ∧ (w.drew.drew.alloc O).cell? ⟨fb, below.length * 4 + 1, none⟩ = some (.int .i64 f.pc) ∧ (w.drew.drew.alloc O).cell? ⟨mbb, mo + f.m * 4 + 3, none⟩ = some (.slice (some ⟨xb, xo, none⟩) cl kc) ∧ (w.drew.drew.alloc O).cell? ⟨xb, xo + f.pc * 4, none⟩ = some (.int .i64 32) ∧ (w.drew.drew.alloc O).cell? ⟨xb, xo + f.pc * 4 + 1, none⟩ = some (.int .i64 j) ∧ (w.drew.drew.alloc O).cell? ⟨xb, xo + f.pc * 4 + 2, none⟩ = some (.int .i64 ib') ∧ (w.drew.drew.alloc O).cell? ⟨xb, xo + f.pc * 4 + 3, none⟩ = some (.int .i64 ic) := fun O => by
  have hx := (((Upd.refl [] w).drew).drew).alloc O
  exact ⟨hx.cell q0 (by simp), hx.cell q1 (by simp), hx.cell q2 (by simp), hx.cell q3 (by simp), hx.cell x0 (by simp), hx.cell x1 (by simp), hx.cell x2 (by simp), hx.cell x3 (by simp)⟩
 have HNEW := Lib.hid (heap_alloc_new w.drew.drew (.cells #[.int .i64 0, .int .i64 0, .int .i64 0, .int .i64 0] 29))
 have r0 : (w.drew.drew.alloc (.cells #[.int .i64 0, .int .i64 0, .int .i64 0, .int .i64 0] 29)).cell? ⟨w.drew.drew.heap.size, 0, none⟩ = some (.int .i64 0) := by rw [cell_of HNEW.out]; rfl
 have r1 : (w.drew.drew.alloc (.cells #[.int .i64 0, .int .i64 0, .int .i64 0, .int .i64 0] 29)).cell? ⟨w.drew.drew.heap.size, 1, none⟩ = some (.int .i64 0) := by rw [cell_of HNEW.out]; rfl
 have r2 : (w.drew.drew.alloc (.cells #[.int .i64 0, .int .i64 0, .int .i64 0, .int .i64 0] 29)).cell? ⟨w.drew.drew.heap.size, 2, none⟩ = some (.int .i64 0) := by rw [cell_of HNEW.out]; rfl
 have r3 : (w.drew.drew.alloc (.cells #[.int .i64 0, .int .i64 0, .int .i64 0, .int .i64 0] 29)).cell? ⟨w.drew.drew.heap.size, 3, none⟩ = some (.int .i64 0) := by rw [cell_of HNEW.out]; rfl
 have rz := froz_of HNEW.out
 have HU : Hid (Upd [] w (w.alloc (.cells #[.int .i64 32, .int .i64 j, .int .i64 ib', .int .i64 ic] 29)).drew.drew) := ((Upd.refl [] w).alloc _).drew.drew
 have HBX : Hid ((w.alloc (.cells #[.int .i64 32, .int .i64 j, .int .i64 ib', .int .i64 ic] 29)).drew.drew.heap[w.heap.size]? = some (.cells #[.int .i64 32, .int .i64 j, .int .i64 ib', .int .i64 ic] 29)) := heap_alloc_new w _
 clear q0 q1 q2 q3 x0 x1 x2 x3 HNEW
 go_enter Tryd.func20, Tryd.ntmps20
 go_upto_region 3 with fail
 refine wp_region_noPanic ?_
 refine wp_region_L (S := fun w' => w'.cell? ⟨mb, 5, none⟩ = some (.slice (some ⟨fb, 0, none⟩) (below.length + 1) c)) 11 (by kernel_rfl) ?_ (fun hHeld => ?_)
 ·exact m5
 refine Nx.start [(0, [11]), (1, [11]), (2, [11]), (3, [11]), (4, [11]), (5, [11]), (6, [11]), (7, [11]), (8, [11]), (9, [11]), (10, [11])] ?_
 iterate 11
  refine Nx.p (oi := ?_) (v := ?_) ?_ (by kernel_rfl) (fun _ _ _ h => h) ?_ ?_ hHeld ?_
  rotate_left 2
  ·simp only [List.getElem?_toArray, List.getElem?_cons_zero, List.getElem?_cons_succ]; rfl
  ·rfl
  ·intro _ hSw; (try dsimp only at hSw); go_simp <;> with_reducible rfl
  (try simp only [Act.put, List.setIfInBounds_toArray, List.set_cons_zero, List.set_cons_succ])
 refine Nx.stop ?_
 refine wpAnyL_last (o := ?_) (by kernel_rfl) ?_ (fun K hK => ?_)
 rotate_left 1
 ·simp only [List.getElem?_toArray, List.getElem?_cons_zero, List.getElem?_cons_succ]; rfl
 clear hHeld
 go_simp
 refine hK.out _ _ ?_
 clear hK K
 (try simp only [Act.put, List.setIfInBounds_toArray, List.set_cons_zero, List.set_cons_succ])
 refine wpAnyL_done (by kernel_rfl) ?_ _
 refine NoPanic.normal ?_
 go_upto_region 4 with fail
 refine wp_region_noPanic ?_
 refine wp_region_L (S := fun w' => w'.cell? ⟨mb, 2, none⟩ = some (.slice (some ⟨mbb, mo, none⟩) p.ms.length mc) ∧ w'.cell? ⟨fb, below.length * 4, none⟩ = some (.int .i64 f.m) ∧ w'.cell? ⟨fb, below.length * 4 + 1, none⟩ = some (.int .i64 f.pc) ∧ w'.cell? ⟨mbb, mo + f.m * 4 + 3, none⟩ = some (.slice (some ⟨xb, xo, none⟩) cl kc) ∧ w'.cell? ⟨xb, xo + f.pc * 4, none⟩ = some (.int .i64 32) ∧ w'.cell? ⟨xb, xo + f.pc * 4 + 1, none⟩ = some (.int .i64 j) ∧ w'.cell? ⟨xb, xo + f.pc * 4 + 2, none⟩ = some (.int .i64 ib') ∧ w'.cell? ⟨xb, xo + f.pc * 4 + 3, none⟩ = some (.int .i64 ic)) 19 (by kernel_rfl) ?_ (fun hHeld => ?_)
 ·first | exact k0 | exact k1 _
 refine Nx.start [(0, [19]), (1, [19]), (2, [19]), (3, [19]), (4, [19]), (5, [19]), (6, [19]), (7, [19]), (8, [19]), (9, [19]), (10, [19]), (11, [19]), (12, [19]), (13, [19]), (14, [19]), (15, [19]), (16, [19]), (17, [19])] ?_
 iterate 18
  refine Nx.p (oi := ?_) (v := ?_) ?_ (by kernel_rfl) (fun _ _ _ h => h) ?_ ?_ hHeld ?_
  rotate_left 2
  ·simp only [List.getElem?_toArray, List.getElem?_cons_zero, List.getElem?_cons_succ]; rfl
  ·rfl
  ·intro _ hSw; (try dsimp only at hSw); go_simp <;> with_reducible rfl
  (try simp only [Act.put, List.setIfInBounds_toArray, List.set_cons_zero, List.set_cons_succ])
 refine Nx.stop ?_
 refine wpAnyL_one (i := 18) (o := ?_) (by kernel_rfl) ?_ (fun K hK => ?_)
 rotate_left 1
 ·simp only [List.getElem?_toArray, List.getElem?_cons_zero, List.getElem?_cons_succ]; rfl
 clear hHeld
 go_simp
 refine hK.out _ _ ?_ (fun hHeld => ?_)
 ·first | exact k0 | exact k1 _
 clear hK K
 (try simp only [Act.put, List.setIfInBounds_toArray, List.set_cons_zero, List.set_cons_succ])
 refine wpAnyL_last (o := ?_) (by kernel_rfl) ?_ (fun K hK => ?_)
 rotate_left 1
 ·simp only [List.getElem?_toArray, List.getElem?_cons_zero, List.getElem?_cons_succ]; rfl
 clear hHeld
 go_simp
 refine hK.out _ _ ?_
 clear hK K
 (try simp only [Act.put, List.setIfInBounds_toArray, List.set_cons_zero, List.set_cons_succ])
 refine wpAnyL_done (by kernel_rfl) ?_ _
 refine NoPanic.normal ?_
 clear k0 k1 m5 r0 r1 r2 r3 rz
 go_upto_region 5 with fail
 generalize (w.alloc (.cells #[.int .i64 32, .int .i64 j, .int .i64 ib', .int .i64 ic] 29)).drew.drew = w4 at HU HBX ⊢
 generalize w.heap.size = bx at HBX ⊢
 have x0 : w4.cell? ⟨bx, 0, none⟩ = some (.int .i64 32) := by rw [cell_of HBX.out]; rfl
 have x1 : w4.cell? ⟨bx, 1, none⟩ = some (.int .i64 j) := by rw [cell_of HBX.out]; rfl
 have x2 : w4.cell? ⟨bx, 2, none⟩ = some (.int .i64 ib') := by rw [cell_of HBX.out]; rfl
 have x3 : w4.cell? ⟨bx, 3, none⟩ = some (.int .i64 ic) := by rw [cell_of HBX.out]; rfl
 have H4 := Lib.hid (HH.out.new HU.out)
 have hsf : S.stepF p below f = if S.fuel = 0 then S.stop 3 0 f else { S with frs := p.enter j (f.stk.drop (f.stk.length - (p.ms.getD j default).params.size)) :: { f with stk := cutV f.stk (p.ms.getD j default).params.size, pc := f.pc + 1 } :: below, fuel := S.fuel - 1 } := by
  unfold Mc.stepF
  simp only
  rw [← HAT.out.xe, if_neg (show ¬ ((32 : Int) = 22 ∨ (32 : Int) = 23) by decide), if_pos rfl]
  rfl
 have HSF := Lib.hid hsf
 clear hsf hcl hcl1 hcl2
 cases hfu : S.fuel with
 | zero =>
  have HB := Lib.hid (mburn_none H4.out HF.out HFIN.out hfu)
  have HFU := Lib.hid hfu
  clear hfu hks
  go_wp2_with fail
  refine HB.out.mono ?_
  rintro e w5 ⟨rfl, h5, hu5⟩
  have hs5 : Stp B w w5 U R mb ib p (S.stepF p below f) := by
   rw [HSF.out, HFU.out, if_pos rfl]
   refine Stp.go (HU.out.mono (by simp)) ⟨⟨X, h5⟩, hu5.mono (fun b hb _ => ?_)⟩
   rw [List.mem_singleton] at hb
   rw [hb]
   exact H4.out.mine
  clear h5 hu5
  have hen := hs5.ended
  obtain ⟨S5, h5e⟩ : ∃ S5, S.stepF p below f = S5 := ⟨_, rfl⟩
  rw [h5e] at hen hs5
  have HS5 := Lib.hid hs5
  have HE5 := Lib.hid h5e
  clear hs5 h5e
  cases hfe : S5.fin with
  | none =>
   rw [hfe] at hen
   have HFE := Lib.hid hfe
   clear hfe
   go_wp2_with fail
   go_ret
   rw [HE5.out, HFE.out]
   exact ⟨rfl, HS5.out⟩
  | some F =>
   rw [hfe] at hen
   have HFE := Lib.hid hfe
   clear hfe
   go_wp2_with fail
   go_ret
   rw [HE5.out, HFE.out]
   exact ⟨rfl, HS5.out⟩
 | succ fk =>
  have HB := Lib.hid (mburn_one H4.out hfu (by have := HOK.out.fuel; omega))
  have HFU := Lib.hid hfu
  clear hfu
  go_wp2_with fail
  refine HB.out.mono ?_
  rintro e w5 ⟨rfl, h5, hu5⟩
  obtain ⟨g5, gb5, fb5, c5, hg5, hgl5, hfv5, _, _, hR5, ⟨q5, hq5⟩, _, y1, _, y3⟩ := h5.top (f := f) (below := below) HF.out
  rw [HFV.out] at hfv5
  injection hfv5 with e1 _ e3
  injection e1 with e1
  injection e1 with e1
  subst e1 e3
  obtain ⟨_, sp, sc, hsv, hs1, hs2, hs3⟩ := h5.topV (f := f) (below := below) HF.out hg5
  rw [hsv] at y3
  obtain ⟨jb, jo, jc, _, _, _, hjv, j0, _, _, _, _⟩ := h5.methU hjm
  have j2 : w5.cell? ⟨mb, 2, none⟩ = some (.slice (some ⟨jb, jo, none⟩) p.ms.length jc) := h5.boxc (congrArg some hjv)
  have HBX5 := Lib.hid (hu5.heap HBX.out (fun hm => by rw [List.mem_singleton] at hm; rw [hm] at HBX; exact absurd (typ_ne HBX.out H4.out.box) (by decide)))
  have b1 : w5.cell? ⟨bx, 1, none⟩ = some (.int .i64 j) := by rw [cell_of HBX5.out]; rfl
  obtain ⟨n1, hn1⟩ : ∃ n1, n1 = f.stk.length - (p.ms.getD j default).params.size := ⟨_, rfl⟩
  have hcl : (cutV f.stk (p.ms.getD j default).params.size).length = n1 := by unfold cutV; rw [List.length_take]; omega
  have hst := h5.drew.stCut (f := f) (below := below) HF.out hg5 hsv (p.ms.getD j default).params.size n1 (by omega) (by unfold maxLen; omega) (fun e => by have := hs3 e; omega)
  rw [← hn1] at hst
  have HSET := Lib.hid (h5.drew.setTop2 (f := f) (below := below) HF.out hg5 HFV.out (.slice sp n1 n1) (cutV f.stk (p.ms.getD j default).params.size) (f.pc + 1) hst)
  have z3 := froz_of hq5 (below.length * 4 + 3)
  have z1 := froz_of hq5 (below.length * 4 + 1)
  have hal : (f.stk.drop n1).length ≤ (kindsL (p.ms.getD j default)).length := by rw [List.length_drop, kindsL_len]; omega
  have hfrl : S.frs.length ≤ 300000 := by have := HOK.out.room; omega
  have hfrl2 : below.length + 1 ≤ 300000 := by rw [HF.out] at hfrl; exact hfrl
  have hread := (h5.drew.stk 0 (by show 0 < S.frs.length; rw [HF.out]; simp)).read
  obtain ⟨sb, hrd, hrb⟩ := hread
  have hrd2 : VlV w5.drew (.slice sp f.stk.length sc) sb 0 f.stk := by
   have h9 := hrd
   rw [hg5] at h9
   have h10 : VlV w5.drew g5.sv sb 0 (S.frs.getD 0 default).stk := h9
   rw [HF.out, hsv] at h10
   exact h10
  have hrb2 : f.stk = [] ∨ sb ∉ [fb] := by
   by_cases e : f.stk = []
   ·exact .inl e
   ·have h9 : (S.frs.getD 0 default).stk ≠ [] := by rw [HF.out]; exact e
    obtain ⟨_, _, _, cq, hcq⟩ := hrb h9
    refine .inr fun hm => ?_
    rw [List.mem_singleton] at hm
    rw [hm] at hcq
    exact absurd (typ_ne hcq hq5) (by decide)
  have hspc : (((f.pc + 1 : Nat) : Int)) = (f.pc : Int) + 1 := by omega
  rw [hspc] at HSET
  have hlen1 : (f.stk.drop n1).length = f.stk.length - n1 := List.length_drop
  -- enter
  have HEN : Hid (∀ q ac, (f.stk.drop n1 ≠ [] → q = some ⟨sb, 0 + n1 * 2, none⟩) → (q = none → ac = 0) → Calls Tryd.prog 19 #[.pointer (some ⟨mb, 0, none⟩), .int .i64 j, .slice q (f.stk.length - n1) ac] ((w5.drew.setCell ⟨fb, below.length * 4 + 3, none⟩ (.slice sp n1 n1)).setCell ⟨fb, below.length * 4 + 1, none⟩ (.int .i64 ((f.pc : Int) + 1))) fun e w' => e = .returned (.tuple #[]) ∧ Stp B w w' U R mb ib p (S.stepF p below f)) := fun q ac hq hqn => by
   have hv := (hrd2.upd HSET.out.2 hrb2).drop n1 (q := q) ac hq
   have h9 := menter_any HSET.out.1 HV.out.ok j hjm (f.stk.drop n1) hal hv hqn (fun f0 bl hfb => by
    injection hfb with e1 _
    subst e1
    exact ⟨sp, by show Value.slice sp n1 n1 = .slice sp (cutV f.stk _).length (cutV f.stk _).length; rw [hcl]⟩) hfrl2
   rw [hlen1] at h9
   refine h9.mono fun e w' ⟨h10, h11⟩ => ⟨h10, ?_⟩
   rw [HSF.out, HFU.out, if_neg (by omega), ← hn1]
   refine Stp.go (HU.out.mono (by simp)) (Stp.go (w1 := w5) (hu5.mono (fun b hb _ => by rw [List.mem_singleton] at hb; rw [hb]; exact H4.out.mine)) ?_)
   refine Stp.go (w1 := (w5.drew.setCell ⟨fb, below.length * 4 + 3, none⟩ (.slice sp n1 n1)).setCell ⟨fb, below.length * 4 + 1, none⟩ (.int .i64 ((f.pc : Int) + 1))) ((((Upd.refl _ w5).drew).trans' HSET.out.2 (fun b hb _ => by rw [List.mem_singleton] at hb; rw [hb]; exact hR5))) ?_
   rw [show news w5 ((w5.drew.setCell ⟨fb, below.length * 4 + 3, none⟩ (.slice sp n1 n1)).setCell ⟨fb, below.length * 4 + 1, none⟩ (.int .i64 ((f.pc : Int) + 1))) = [] by rw [news_same (w1 := w5) (by rw [size_set, size_set]; rfl), news_self], List.append_nil, List.append_nil]
   exact h11
  have b7 : Hid (((w5.drew.setCell ⟨fb, below.length * 4 + 3, none⟩ (.slice sp n1 n1)).setCell ⟨fb, below.length * 4 + 1, none⟩ (.int .i64 ((f.pc : Int) + 1))).heap[bx]? = some (.cells #[.int .i64 32, .int .i64 j, .int .i64 ib', .int .i64 ic] 29)) := by
   have h9 : w5.drew.heap[bx]? = some (.cells #[.int .i64 32, .int .i64 j, .int .i64 ib', .int .i64 ic] 29) := HBX5.out
   refine HSET.out.2.heap h9 (fun hm => ?_)
   rw [List.mem_singleton] at hm
   rw [hm] at h9
   exact absurd (typ_ne h9 hq5) (by decide)
  have hsp : ∀ ad, sp = some ad → f.stk ≠ [] → ad = ⟨sb, 0, none⟩ := fun ad he hne => by
   obtain ⟨⟨p9, c9, h9, h10⟩, _⟩ := hrd2
   injection h9 with h9
   rw [h10 hne, he] at h9
   injection h9
  have hnm : sp = none → sc = n1 := fun e => by have := hs3 e; omega
  have hdr : f.stk.length - n1 = 0 → f.stk.drop n1 = [] := fun e => List.drop_eq_nil_iff.2 (by omega)
  have HSP := Lib.hid hsp
  have HDR := Lib.hid hdr
  have HNE : Hid (f.stk.length ≠ 0 → f.stk ≠ []) := fun h e => h (by rw [e]; rfl)
  have hsn : n1 ≤ sc := by omega
  have hmx : sc ≤ 9223372036854775807 := by unfold maxLen at hs2; omega
  clear hu5 h5 hg5 hgl5 hR5 hq5 hst hal hfrl hfrl2 hrd hrb hrd2 hrb2 hlen1 hjv hs3 hs2 hcl hspc hsp hdr hsv
  generalize hprm : (p.ms.getD j default).params = prm at *
  generalize hsl : f.stk.length = sl at *
  have sA : IntKind.i64.wrap ((sl : Int) - (prm.size : Int)) = (n1 : Int) := by rw [IntWalk.i64_in _ (by omega)]; omega
  have l1 : (n1 : Int) ≤ (sl : Int) := by omega
  have l2 : (n1 : Int) ≤ (sc : Int) := by omega
  have spc : IntKind.i64.wrap ((f.pc : Int) + 1) = (f.pc : Int) + 1 := by rw [IntWalk.i64_in _ (by omega)]
  have HN1 := Lib.hid hn1
  clear hn1
  clear x0 x1 x2 x3
  have k0 : w5.cell? ⟨fb, below.length * 4 + 3, none⟩ = some (.slice sp sl sc) ∧ w5.cell? ⟨mb, 2, none⟩ = some (.slice (some ⟨jb, jo, none⟩) p.ms.length jc) ∧ w5.cell? ⟨bx, 1, none⟩ = some (.int .i64 j) ∧ w5.cell? ⟨jb, jo + j * 4, none⟩ = some (.string prm) := ⟨y3, j2, b1, j0⟩
  go_upto_region 15 with fail
  refine wp_region_noPanic ?_
  refine wp_region_L (S := fun w' => w'.cell? ⟨fb, below.length * 4 + 3, none⟩ = some (.slice sp sl sc) ∧ w'.cell? ⟨mb, 2, none⟩ = some (.slice (some ⟨jb, jo, none⟩) p.ms.length jc) ∧ w'.cell? ⟨bx, 1, none⟩ = some (.int .i64 j) ∧ w'.cell? ⟨jb, jo + j * 4, none⟩ = some (.string prm)) 17 (by kernel_rfl) ?_ (fun hHeld => ?_)
  ·exact k0
  refine Nx.start [(0, [17]), (1, [17]), (2, [17]), (3, [17]), (4, [17]), (5, [17]), (6, [17]), (7, [17]), (8, [17]), (9, [17]), (10, [17]), (11, [17]), (12, [17]), (13, [17]), (14, [17]), (15, [17]), (16, [17])] ?_
  iterate 17
   refine Nx.p (oi := ?_) (v := ?_) ?_ (by kernel_rfl) (fun _ _ _ h => h) ?_ ?_ hHeld ?_
   rotate_left 2
   ·simp only [List.getElem?_toArray, List.getElem?_cons_zero, List.getElem?_cons_succ]; rfl
   ·rfl
   ·intro _ hSw; (try dsimp only at hSw); go_simp <;> with_reducible rfl
   (try simp only [Act.put, List.setIfInBounds_toArray, List.set_cons_zero, List.set_cons_succ])
  refine Nx.stop ?_
  refine wpAnyL_last (o := ?_) (by kernel_rfl) ?_ (fun K hK => ?_)
  rotate_left 1
  ·simp only [List.getElem?_toArray, List.getElem?_cons_zero, List.getElem?_cons_succ]; rfl
  clear hHeld
  go_simp
  refine hK.out _ _ ?_
  clear hK K
  (try simp only [Act.put, List.setIfInBounds_toArray, List.set_cons_zero, List.set_cons_succ])
  refine wpAnyL_done (by kernel_rfl) ?_ _
  refine NoPanic.normal ?_
  clear k0 j0 j2
  have y3' : w5.drew.cell? ⟨fb, below.length * 4 + 3, none⟩ = some (.slice sp sl sc) := y3
  have y1' : w5.drew.cell? ⟨fb, below.length * 4 + 1, none⟩ = some (.int .i64 f.pc) := y1
  have z3' : w5.drew.frozen? ⟨fb, below.length * 4 + 3, none⟩ = false := z3
  have z1' : w5.drew.frozen? ⟨fb, below.length * 4 + 1, none⟩ = false := z1
  have b1' : w5.drew.cell? ⟨bx, 1, none⟩ = some (.int .i64 j) := b1
  clear y3 y1 z3 z1 b1 HSET
  go_upto_region 16 with fail
  generalize w5.drew = w6 at HEN b7 y3' y1' z3' z1' b1' ⊢
  have y3 := y3'
  have y1 := y1'
  have z3 := z3'
  have z1 := z1'
  clear y3' y1' z3' z1' b1'
  by_cases hcc : sc = n1
  ·subst hcc
   have hd0 : sl - sc = 0 := by have := HN1.out; omega
   have hd := Lib.hid (HDR.out hd0)
   have HD0 := Lib.hid hd0
   clear hd0
   go_upto_region 19 with fail
   clear y3 y1 z3 z1
   generalize (w6.setCell ⟨fb, below.length * 4 + 3, none⟩ (.slice sp sc sc)).setCell ⟨fb, below.length * 4 + 1, none⟩ (.int .i64 ((f.pc : Int) + 1)) = w7 at HEN b7 ⊢
   have x7 : w7.cell? ⟨bx, 1, none⟩ = some (.int .i64 j) := by rw [cell_of b7.out]; rfl
   go_wp2_with fail
   have hcall := HEN.out sp 0 (fun h => absurd hd.out h) (fun _ => rfl)
   rw [HD0.out] at hcall
   refine hcall.mono ?_
   rintro e w8 ⟨rfl, hs5⟩
   have hen := hs5.ended
   obtain ⟨S5, h5e⟩ : ∃ S5, S.stepF p below f = S5 := ⟨_, rfl⟩
   rw [h5e] at hen hs5
   have HS5 := Lib.hid hs5
   have HE5 := Lib.hid h5e
   clear hs5 h5e
   cases hfe : S5.fin with
   | none =>
    rw [hfe] at hen
    have HFE := Lib.hid hfe
    clear hfe
    go_wp2_with fail
    go_ret
    rw [HE5.out, HFE.out]
    exact ⟨rfl, HS5.out⟩
   | some F =>
    rw [hfe] at hen
    have HFE := Lib.hid hfe
    clear hfe
    go_wp2_with fail
    go_ret
    rw [HE5.out, HFE.out]
    exact ⟨rfl, HS5.out⟩
  ·obtain ⟨ad, rfl⟩ : ∃ ad, sp = some ad := by
    cases hq : sp with
    | none => exact absurd (hnm hq) hcc
    | some ad => exact ⟨ad, rfl⟩
   have hcc2 : ¬ n1 = sc := fun h => hcc h.symm
   clear hnm
   by_cases hz : sl = 0
   ·have hd := Lib.hid (HDR.out (by omega))
    clear hz
    go_upto_region 19 with fail
    clear y3 y1 z3 z1
    generalize (w6.setCell ⟨fb, below.length * 4 + 3, none⟩ (.slice (some ad) n1 n1)).setCell ⟨fb, below.length * 4 + 1, none⟩ (.int .i64 ((f.pc : Int) + 1)) = w7 at HEN b7 ⊢
    have x7 : w7.cell? ⟨bx, 1, none⟩ = some (.int .i64 j) := by rw [cell_of b7.out]; rfl
    go_wp2_with fail
    have hcall := HEN.out (some (ad.add (n1 * 2))) (sc - n1) (fun h => absurd hd.out h) (fun h => by cases h)
    skip
    refine hcall.mono ?_
    rintro e w8 ⟨rfl, hs5⟩
    have hen := hs5.ended
    obtain ⟨S5, h5e⟩ : ∃ S5, S.stepF p below f = S5 := ⟨_, rfl⟩
    rw [h5e] at hen hs5
    have HS5 := Lib.hid hs5
    have HE5 := Lib.hid h5e
    clear hs5 h5e
    cases hfe : S5.fin with
    | none =>
     rw [hfe] at hen
     have HFE := Lib.hid hfe
     clear hfe
     go_wp2_with fail
     go_ret
     rw [HE5.out, HFE.out]
     exact ⟨rfl, HS5.out⟩
    | some F =>
     rw [hfe] at hen
     have HFE := Lib.hid hfe
     clear hfe
     go_wp2_with fail
     go_ret
     rw [HE5.out, HFE.out]
     exact ⟨rfl, HS5.out⟩
   ·have had := HSP.out ad rfl (HNE.out hz)
    subst had
    clear hz
    go_upto_region 19 with fail
    clear y3 y1 z3 z1
    generalize (w6.setCell ⟨fb, below.length * 4 + 3, none⟩ (.slice (some ⟨sb, 0, none⟩) n1 n1)).setCell ⟨fb, below.length * 4 + 1, none⟩ (.int .i64 ((f.pc : Int) + 1)) = w7 at HEN b7 ⊢
    have x7 : w7.cell? ⟨bx, 1, none⟩ = some (.int .i64 j) := by rw [cell_of b7.out]; rfl
    go_wp2_with fail
    have hcall := HEN.out (some ⟨sb, n1 * 2, none⟩) (sc - n1) (fun _ => by simp) (fun h => by cases h)
    skip
    refine hcall.mono ?_
    rintro e w8 ⟨rfl, hs5⟩
    have hen := hs5.ended
    obtain ⟨S5, h5e⟩ : ∃ S5, S.stepF p below f = S5 := ⟨_, rfl⟩
    rw [h5e] at hen hs5
    have HS5 := Lib.hid hs5
    have HE5 := Lib.hid h5e
    clear hs5 h5e
    cases hfe : S5.fin with
    | none =>
     rw [hfe] at hen
     have HFE := Lib.hid hfe
     clear hfe
     go_wp2_with fail
     go_ret
     rw [HE5.out, HFE.out]
     exact ⟨rfl, HS5.out⟩
    | some F =>
     rw [hfe] at hen
     have HFE := Lib.hid hfe
     clear hfe
     go_wp2_with fail
     go_ret
     rw [HE5.out, HFE.out]
     exact ⟨rfl, HS5.out⟩

end
end Go.Proofs.YtojobkhidlfeoaaDoor
