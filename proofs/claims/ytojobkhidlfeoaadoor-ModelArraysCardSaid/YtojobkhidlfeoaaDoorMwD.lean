/- model: slices.Clone of values; Machine.enter: a new frame. model: Machine.enter: a new frame. -/
import Derived.Test.YtojobkhidlfeoaaDoorMwA
import Derived.Test.YtojobkhidlfeoaaDoorAccA
/-! model: slices.Clone of values; Machine.enter: a new frame. -/
namespace Go.Proofs.YtojobkhidlfeoaaDoor
open Go.RowKit

set_option maxRecDepth 100000 in
set_option maxHeartbeats 1000000 in
theorem vclone_any (p : Option Addr) (c : Nat) (b o : Nat) (xs : List Vl) (w : World) (h : VlV w (.slice p xs.length c) b o xs) (hp : p = none → c = 0) (hn : xs.length ≤ 100000) :
  Calls Tryd.prog 21 #[.slice p xs.length c] w fun e w' => ∃ q vc, e = .returned (.slice q xs.length vc) ∧ OwnV 85 w' w.heap.size (.slice q xs.length vc) xs ∧ Upd [] w w' := by
 obtain ⟨i0, hi, hz0, hz1, hz2⟩ := info_parts Tryd.infoMValue
 have HI := Lib.hid hi
 have HZ0 := Lib.hid hz0
 have HZ1 := Lib.hid hz1
 have HZ2 := Lib.hid hz2
 clear hi hz0 hz1 hz2
 cases p with
 | none =>
  obtain rfl := hp rfl
  have hx : xs = [] := by
   obtain ⟨⟨p', c', he, h2⟩, _⟩ := h
   injection he with e1
   subst e1
   exact Decidable.byContradiction fun hne => by cases h2 hne
  subst hx
  clear h hp
  have hq : ∀ W, (binOp BinOp.eql 80 (.slice none 0 0) (.slice none 0 0)).run Tryd.prog W = .ok (.bool true) W := fun _ => by kernel_rfl
  go_enter Tryd.func21, Tryd.ntmps21
  go_wp2_with fail
  go_ret
  exact ⟨none, 0, rfl, OwnV.nil _ _ _, Upd.refl _ _⟩
 | some a =>
  have HX := Lib.hid h.src
  have HLT : Hid (∀ j u, (vcells xs)[j]? = some u → w.cell? ⟨b, o + j, none⟩ = some u) := h.cells
  have HAE : Hid (xs ≠ [] → a = ⟨b, o, none⟩) := by
   obtain ⟨⟨p', c', he, h2⟩, _⟩ := h
   injection he with e1
   subst e1
   exact fun hne => by injection h2 hne
  clear h hp
  have hq : ∀ W, (binOp BinOp.eql 80 (.slice (some a) xs.length c) (.slice none 0 0)).run Tryd.prog W = .ok (.bool false) W := fun _ => by kernel_rfl
  go_enter Tryd.func21, Tryd.ntmps21
  go_wp2_with (at_builtin; refine stop_here ?_)
  refine Hid.mk ?_
  have hrow : (w.alloc (.cells #[] 85)).ownsRow w.heap.size 85 2 (.slice (some ⟨w.heap.size, 0, none⟩) 0 0) 0 [] :=
   ⟨by simp, .inr ⟨w.heap.size, 0, #[], rfl, Nat.le_refl _, heap_alloc_new _ _, by omega, by simp [maxLen], by simp, by simp⟩⟩
  have hsrc : SrcV (w.alloc (.cells #[] 85)) (.slice (some a) xs.length c) xs.length (vcells xs) := .inr ⟨a, c, rfl, fun j u hj => by
   have hne : xs ≠ [] := fun e => by subst e; simp [vcells] at hj
   obtain rfl := HAE.out hne
   rw [Addr.add_lit]
   exact ((Upd.refl [] w).alloc _).cell (HLT.out j u hj) (by simp)⟩
  refine (wpList_append_src rfl _ _ 80 rfl w.heap.size 85 i0 (.agg #[.bool false, .int .i64 0]) 2 16 Tryd.underlying80 HI.out HZ0.out HZ1.out HZ2.out rfl (by decide) _ _ _ rfl hrow _ xs.length (vcells xs) rfl hsrc (vcells_len _) (vcells_one _) (by unfold maxLen; omega) (by omega) (by simp) ?_)
  intro v' w6 hown hgr _
  have hu := ((Upd.refl [] w).alloc (.cells #[] 85)).grown hgr (fun q hq => .inr (by injection hq with hq; exact Nat.le_of_eq hq))
  rw [Nat.zero_add, List.nil_append] at hown
  have HO : Hid (OwnV 85 w6 w.heap.size v' xs) := hown
  have HU := Lib.hid hu
  obtain ⟨p2, c2, rfl⟩ := HO.out.shape
  clear hown hgr hu hrow hsrc HX
  go_wp2_with fail
  go_ret
  exact ⟨_, _, rfl, HO.out, HU.out⟩
theorem Tryd.infoMFrame : (Tryd.prog.info? 82).map (fun i => (i.zero, i.size, i.bytes)) = some (some (.agg #[.int .i64 0, .int .i64 0, .slice none 0 0, .slice none 0 0]), 4, 64) := by kernel_rfl
theorem OwnV.low {t : TypeId} {w : World} {B B' : Nat} {v : Value} {xs : List Vl} (h : OwnV t w B v xs) (hb : B' ≤ B) : OwnV t w B' v xs := by
 refine ⟨h.1, ?_⟩
 rcases h.2 with h1 | ⟨g, c, cur, h1, h2, h3⟩
 ·exact .inl h1
 ·exact .inr ⟨g, c, cur, h1, Nat.le_trans hb h2, h3⟩
theorem VlV.uniq {w w' : World} {v : Value} {b b' o o' : Nat} {xs : List Vl} (h : VlV w v b o xs) (h' : VlV w' v b' o' xs) (hne : xs ≠ []) : b = b' := by
 obtain ⟨⟨p, c, h1, h2⟩, _⟩ := h
 obtain ⟨⟨p', c', h3, h4⟩, _⟩ := h'
 rw [h1] at h3
 injection h3 with e
 subst e
 have h5 := (h2 hne).symm.trans (h4 hne)
 injection h5 with h5
 injection h5
/-- A method of the machine's own program. -/
theorem MAt.methU {B : Nat} {w : World} {U R : List Nat} {mb ib : Nat} {p : Prg} {S : Mc} {X : MX} (h : MAt B w U R mb ib p S X) {k : Nat} (hk : k < p.ms.length) : ∃ b o mc ka kc, b ∉ U ∧ X.mv = .slice (some ⟨b, o, none⟩) p.ms.length mc ∧ w.cell? ⟨b, o + k * 4, none⟩ = some (.string (p.ms.getD k default).params) ∧ w.cell? ⟨b, o + k * 4 + 1, none⟩ = some (.string (p.ms.getD k default).locals) ∧ w.cell? ⟨b, o + k * 4 + 2, none⟩ = some (.string (p.ms.getD k default).ret) ∧ w.cell? ⟨b, o + k * 4 + 3, none⟩ = some (.slice ka (p.ms.getD k default).code.length kc) ∧ CodeAt w (.slice ka (p.ms.getD k default).code.length kc) (p.ms.getD k default).code := by
 obtain ⟨a, mc, h1, _, _, hx⟩ := h.mth
 obtain ⟨b, o, rfl, _, h2, h3, h4, v, h5, h6⟩ := hx k hk
 obtain ⟨ka, kc, rfl, h7⟩ := id h6
 exact ⟨b, o, mc, ka, kc, (offs_cell U h2).1, h1, (offs_cell U h2).2, (offs_cell U h3).2, (offs_cell U h4).2, (offs_cell U h5).2, h6.reads (fun _ _ h => (offs_cell U h).2)⟩
theorem MAt.meth {B : Nat} {w : World} {U R : List Nat} {mb ib : Nat} {p : Prg} {S : Mc} {X : MX} (h : MAt B w U R mb ib p S X) {k : Nat} (hk : k < p.ms.length) : ∃ b o mc ka kc, X.mv = .slice (some ⟨b, o, none⟩) p.ms.length mc ∧ w.cell? ⟨b, o + k * 4, none⟩ = some (.string (p.ms.getD k default).params) ∧ w.cell? ⟨b, o + k * 4 + 1, none⟩ = some (.string (p.ms.getD k default).locals) ∧ w.cell? ⟨b, o + k * 4 + 2, none⟩ = some (.string (p.ms.getD k default).ret) ∧ w.cell? ⟨b, o + k * 4 + 3, none⟩ = some (.slice ka (p.ms.getD k default).code.length kc) ∧ CodeAt w (.slice ka (p.ms.getD k default).code.length kc) (p.ms.getD k default).code := by
 obtain ⟨a, mc, h1, _, _, hx⟩ := h.mth'
 obtain ⟨b, o, rfl, _, h2, h3, h4, v, h5, h6⟩ := hx k hk
 obtain ⟨ka, kc, rfl, h7⟩ := id h6
 exact ⟨b, o, mc, ka, kc, h1, h2, h3, h4, h5, h6⟩
theorem headK {p : Prg} (hp : p.Ok) {k : Nat} (hk : k < p.ms.length) : (p.ms.getD k default).params.size ≤ 12 ∧ (p.ms.getD k default).locals.size ≤ 12 ∧ (kindsL (p.ms.getD k default)).length ≤ 12 ∧ (p.ms.getD k default).code.length ≤ 120 ∧ 0 < (p.ms.getD k default).code.length := by
 have h1 := hp.meth k hk
 have h2 := kindsL_len (p.ms.getD k default)
 unfold headCode at h1
 split at h1
 ·cases h1
 ·omega
theorem take_app {α : Type} {a b : List α} {j : Nat} (h : a.length ≤ j) : (a ++ b).take j = a ++ b.take (j - a.length) := by
 rw [List.take_append, List.take_of_length_le h]
theorem full_take {ks : List UInt8} {args : List Vl} {j : Nat} (h1 : args.length ≤ j) (h2 : j < ks.length) : (args ++ (ks.drop args.length).map zeroV).take (j + 1) = (args ++ (ks.drop args.length).map zeroV).take j ++ [zeroV (ks.getD j 0)] := by
 rw [take_app (by omega), take_app h1, show j + 1 - args.length = (j - args.length) + 1 by omega, take_zero (by simp; omega), List.append_assoc]
 congr 4
 rw [List.getD_eq_getElem?_getD, List.getElem?_drop, List.getD_eq_getElem?_getD, show args.length + (j - args.length) = j by omega]
end Go.Proofs.YtojobkhidlfeoaaDoor

/-! model: Machine.enter: a new frame. -/
namespace Go.Proofs.YtojobkhidlfeoaaDoor
open Go.RowKit

theorem frm_new (w : World) (m : Int) (lv : Value) (j : Nat) (u : Value) (h : ([Value.int .i64 m, .int .i64 0, lv, .slice none 0 0])[j]? = some u) : (w.alloc (.cells #[.int .i64 m, .int .i64 0, lv, .slice none 0 0] 82)).cell? ((⟨w.heap.size, 0, none⟩ : Addr).add j) = some u := by
 rw [Addr.add_lit, Nat.zero_add, cell_of (heap_alloc_new w _)]
 simpa using h
set_option maxRecDepth 100000 in
set_option maxHeartbeats 4000000 in
theorem menter_any {B : Nat} {w : World} {U R : List Nat} {mb ib : Nat} {p : Prg} {S : Mc} {X : MX} (h : MAt B w U R mb ib p S X) (hp : p.Ok) (m : Nat) (hm : m < p.ms.length) (args : List Vl) (hal : args.length ≤ (kindsL (p.ms.getD m default)).length) {ap : Option Addr} {ac ab ao : Nat} (ha : VlV w (.slice ap args.length ac) ab ao args) (hapn : ap = none → ac = 0)
  (hcut : ∀ f0 below, S.frs = f0 :: below → ∃ p, (X.gs.getD 0 default).sv = .slice p f0.stk.length f0.stk.length) (hfl : S.frs.length ≤ 300000) :
  Calls Tryd.prog 19 #[.pointer (some ⟨mb, 0, none⟩), .int .i64 m, .slice ap args.length ac] w fun e w' => e = .returned (.tuple #[]) ∧ (∃ X', MAt B w' (U ++ news w w') (R ++ news w w') mb ib p { S with frs := p.enter m args :: S.frs } X') ∧ Upd R w w' := by
 obtain ⟨i0, hi, hz0, hz1, hz2⟩ := info_parts Tryd.infoMValue
 have HI := Lib.hid hi
 have HZ0 := Lib.hid hz0
 have HZ1 := Lib.hid hz1
 have HZ2 := Lib.hid hz2
 obtain ⟨i1, hj, hy0, hy1, hy2⟩ := info_parts Tryd.infoMFrame
 have HJ := Lib.hid hj
 have HJ0 := Lib.hid hy0
 have HJ1 := Lib.hid hy1
 have HJ2 := Lib.hid hy2
 clear hi hz0 hz1 hz2 hj hy0 hy1 hy2
 have HH := Lib.hid h
 have HCUT := Lib.hid hcut
 obtain ⟨hk1, hk2, hk3, _, _⟩ := headK hp hm
 obtain ⟨b, o, mc, ka, kc, hmv, c0, c1, c2, c3, _⟩ := h.meth hm
 have hb := h.box
 rw [mccells, hmv] at hb
 have n2 : w.cell? ⟨mb, 2, none⟩ = some (.slice (some ⟨b, o, none⟩) p.ms.length mc) := by rw [cell_of hb]; rfl
 have HKA := Lib.hid (kinds_any (p.ms.getD m default) (.slice ka (p.ms.getD m default).code.length kc) w (by omega) (by omega))
 have hks : (bs (kindsL (p.ms.getD m default))).size = (kindsL (p.ms.getD m default)).length := bs_size _
 have HA := Lib.hid ha
 have HMV := Lib.hid hmv
 have hml : m < p.ms.length := hm
 have HEN : Hid (p.enter m args = ⟨m, 0, args ++ ((kindsL (p.ms.getD m default)).drop args.length).map zeroV, []⟩) := rfl
 clear h hb hmv ha hcut hp
 generalize p.ms.getD m default = me at hal hk1 hk2 hk3 c0 c1 c2 c3 HKA hks HEN
 go_enter Tryd.func19, Tryd.ntmps19
 go_wp2_with fail
 refine HKA.out.mono ?_
 rintro e w1 ⟨rfl, hu1⟩
 have HU1 := Lib.hid hu1
 have HC := Lib.hid (fun hn => vclone_any ap ac ab ao args w1 (HA.out.upd hu1 (.inr (by simp))) hapn hn)
 clear hu1 HKA c0 c1 c2 c3 n2
 go_wp2_with fail
 refine (HC.out (by omega)).mono ?_
 rintro e w2 ⟨lp0, lc0, rfl, hown2, hu2⟩
 have HO2 := Lib.hid hown2
 have hud := HU1.out.trans hu2
 have HUD := Lib.hid hud
 have hz12 := HU1.out.size
 have HZ12 := Lib.hid hz12
 clear hu2 hown2 hud HC hz12
 have hbl := heap_alloc_new w2 (.cells #[.int .i64 m, .int .i64 0, .slice lp0 args.length lc0, .slice none 0 0] 82)
 have hu3 := (Upd.refl [] w2).alloc (.cells #[.int .i64 m, .int .i64 0, .slice lp0 args.length lc0, .slice none 0 0] 82)
 have HBL := Lib.hid hbl
 have HO3 := Lib.hid (HO2.out.upd hu3 (by simp))
 have HU3 := Lib.hid (HUD.out.trans hu3)
 have HZ3 := Lib.hid HUD.out.size
 clear hbl hu3
 go_upto_region 2 with fail
 generalize w2.alloc (.cells #[.int .i64 m, .int .i64 0, .slice lp0 args.length lc0, .slice none 0 0] 82) = w3 at HBL HO3 HU3 ⊢
 generalize w2.heap.size = fl at HBL HZ3 ⊢
 generalize kindsL me = ks at hal hks hk3 HEN ⊢
 have HFT : Hid (∀ j, args.length ≤ j → j < ks.length → (args ++ (ks.drop args.length).map zeroV).take (j + 1) = (args ++ (ks.drop args.length).map zeroV).take j ++ [zeroV (ks.getD j 0)]) := fun j h1 h2 => full_take h1 h2
 have HFL : Hid ((args ++ (ks.drop args.length).map zeroV).length = ks.length) := by show _ = _; simp; omega
 have HF0 : Hid ((args ++ (ks.drop args.length).map zeroV).take args.length = args) := List.take_left
 generalize args ++ (ks.drop args.length).map zeroV = full at HEN HFT HFL HF0
 go_wp2_with fail
 go_loopw [8] (fun jv wr => ∃ (j : Nat) (lp : Option Addr) (lc : Nat), args.length ≤ j ∧ j ≤ ks.length ∧ jv = .int .i64 j ∧ Hid (wr.heap[fl]? = some (.cells #[.int .i64 m, .int .i64 0, .slice lp j lc, .slice none 0 0] 82)) ∧ Hid (wr.ownsRow w.heap.size 85 2 (.slice lp j lc) j (vcells (full.take j))) ∧ Hid (Upd [] w wr)) (fun jv _ => ks.length - (intOf jv).toNat)
 case atStart => exact ⟨args.length, lp0, lc0, Nat.le_refl _, hal, rfl, HBL.out, by rw [HF0.out]; exact HO3.out.low (HZ12.out), HU3.out⟩
 case round =>
  clear HBL HO3 HU3
  obtain ⟨j, lp, lc, hj0, hj, rfl, HB, HO, HV⟩ := hrel
  obtain ⟨wo, rfl⟩ : ∃ wo : World, wo = wr := ⟨_, rfl⟩
  have HSZ : Hid (w.heap.size ≤ wo.heap.size) := HV.out.size
  have hflt : w.heap.size ≤ fl := HZ3.out
  by_cases hlt : j < ks.length
  ·have y0 : wo.cell? ⟨fl, 2, none⟩ = some (.slice lp j lc) := by rw [cell_of HB.out]; rfl
   have hT := HFT.out j hj0 hlt
   have hjs : j < (bs ks).size := by omega
   have HZ : Hid (∀ W, Calls Tryd.prog 30 #[.int .u8 (((bs ks)[j]'hjs).toNat : Int)] W fun e W' => e = .returned (.agg #[.bool (zeroV (ks.getD j 0)).ref, .int .i64 (zeroV (ks.getD j 0)).n]) ∧ Upd [] W W') := fun W => by
    have h1 := mzero_any ((bs ks)[j]'hjs) W
    have e1 : (bs ks)[j]'hjs = ks.getD j 0 := by
     rw [List.getD_eq_getElem?_getD, List.getElem?_eq_getElem hlt]
     rfl
    rw [e1] at h1 ⊢
    exact h1
   generalize zeroV (ks.getD j 0) = z at hT HZ
   have HT := Lib.hid hT
   have HROW : Hid (∀ W, Upd [] wo W → W.ownsRow w.heap.size 85 2 (.slice lp j lc) j (vcells (full.take j))) := fun W hW => row_upd HO.out hW (by simp)
   have HAPP : Hid (∀ W, Upd [] wo W → ∀ v' w7, w7.ownsRow w.heap.size 85 2 v' (j + 1) (vcells (full.take j) ++ [.bool z.ref, .int .i64 z.n]) → W.grownBy w7 (Value.ownBlock (.slice lp j lc)) → (∃ gn cn, v' = .slice (some ⟨gn, 0, none⟩) (j + 1) cn) ∧ w7.cell? ⟨fl, 2, none⟩ = some (.slice lp j lc) ∧ w7.frozen? ⟨fl, 2, none⟩ = false ∧
     Hid ((w7.setCell ⟨fl, 2, none⟩ v').heap[fl]? = some (.cells #[.int .i64 m, .int .i64 0, v', .slice none 0 0] 82) ∧ (w7.setCell ⟨fl, 2, none⟩ v').ownsRow w.heap.size 85 2 v' (j + 1) (vcells (full.take (j + 1))) ∧ Upd [] w (w7.setCell ⟨fl, 2, none⟩ v'))) := fun W hW v' w7 hown hgr => by
    have hu7 : Upd (Value.ownBlock (.slice lp j lc)).toList wo w7 := (hW.mono (by simp)).grown hgr (fun q hq => Or.inl (Option.mem_toList.2 hq))
    obtain ⟨gn, cn, cur, hv, hg1, hg2, _⟩ := own_pos hown (by omega)
    have hb7 : w7.heap[fl]? = some (.cells #[.int .i64 m, .int .i64 0, .slice lp j lc, .slice none 0 0] 82) := hu7.heap HB.out (fun hm => own_heap_ne HO.out HB.out (by decide) (Option.mem_toList.1 hm))
    have hst : Upd [fl] w7 (w7.setCell ⟨fl, 2, none⟩ v') := (Upd.refl [_] w7).setCell (.inl (by simp)) _
    refine ⟨⟨gn, cn, hv⟩, by rw [cell_of hb7]; rfl, froz_of hb7 _, heap_setCell hb7 2 _, ?_, ?_⟩
    ·rw [HT.out, vcells_app]
     exact row_upd hown hst (fun k hk hm => own_heap_ne hown hb7 (by decide) (by rw [List.mem_singleton] at hm; rw [← hm]; exact hk))
    ·refine (HV.out.trans' hu7 (fun q hq hl => ?_)).trans' hst (fun q hq hl => by rw [List.mem_singleton] at hq; omega)
     have := (World.ownsRow.lt HO.out q (Option.mem_toList.1 hq)).1
     omega
   have hjk : (j : Int) < ((bs ks).size : Int) := by omega
   clear HB HO hT
   go_upto_region 5 with fail
   refine wp_region_noPanic ?_
   refine wp_region_L (S := fun w' => w'.cell? ⟨fl, 2, none⟩ = some (.slice lp j lc)) 9 (by kernel_rfl) ?_ (fun hHeld => ?_)
   ·first | exact y0 | exact k1 | exact k2 _ | exact k3
   refine Nx.start [(0, []), (1, []), (2, []), (3, []), (4, [])] ?_
   iterate 5
    refine Nx.l (oi := ?_) (v := ?_) ?_ (by kernel_rfl) (fun _ _ _ h => h) ?_ ?_ hHeld ?_
    rotate_left 2
    ·simp only [List.getElem?_toArray, List.getElem?_cons_zero, List.getElem?_cons_succ]; rfl
    ·rfl
    ·intro _ hSw; (try dsimp only at hSw); go_simp <;> with_reducible rfl
    (try simp only [Act.put, List.setIfInBounds_toArray, List.set_cons_zero, List.set_cons_succ])
   refine Nx.stop ?_
   refine wpAnyL_one (i := 5) (o := ?_) (by kernel_rfl) ?_ (fun K hK => ?_)
   rotate_left 1
   ·simp only [List.getElem?_toArray, List.getElem?_cons_zero, List.getElem?_cons_succ]; rfl
   clear hHeld
   go_simp
   (go_at_call 30; refine (HZ.out _).mono ?_; rintro e w5 ⟨rfl, hu5⟩; have hud := (Upd.refl [] wo).drew.trans hu5; have k1 := hud.cell y0 (by simp); have k2 := (fun o => ((Upd.refl [] w5).alloc o).cell k1 (by simp)); have HUD := Lib.hid hud; clear hud hu5)
   try go_wp2_with fail
   refine hK.out _ _ ?_ (fun hHeld => ?_)
   ·first | exact y0 | exact k1 | exact k2 _ | exact k3
   clear hK K
   (try simp only [Act.put, List.setIfInBounds_toArray, List.set_cons_zero, List.set_cons_succ])
   refine wpAnyL_one (i := 6) (o := ?_) (by kernel_rfl) ?_ (fun K hK => ?_)
   rotate_left 1
   ·simp only [List.getElem?_toArray, List.getElem?_cons_zero, List.getElem?_cons_succ]; rfl
   clear hHeld
   go_simp
   refine hK.out _ _ ?_ (fun hHeld => ?_)
   ·first | exact y0 | exact k1 | exact k2 _ | exact k3
   clear hK K
   (try simp only [Act.put, List.setIfInBounds_toArray, List.set_cons_zero, List.set_cons_succ])
   refine wpAnyL_one (i := 7) (o := ?_) (by kernel_rfl) ?_ (fun K hK => ?_)
   rotate_left 1
   ·simp only [List.getElem?_toArray, List.getElem?_cons_zero, List.getElem?_cons_succ]; rfl
   clear hHeld
   (refine step_append_own_at rfl (.tmp 31) (.tmp 36) 80 rfl w.heap.size 85 i0 (.agg #[.bool false, .int .i64 0]) 2 16 Tryd.underlying80 HI.out HZ0.out HZ1.out HZ2.out rfl (by decide) (.slice lp j lc) j (vcells (full.take j)) rfl (HROW.out _ (HUD.out.alloc _)) ⟨w5.heap.size, 0, none⟩ 1 1 [.bool z.ref, .int .i64 z.n] rfl rfl (v1_new _ _ _) (by simp [Value.oneCell']) (by unfold maxLen; omega) (by omega) (by have := HUD.out.size; have := HSZ.out; simp; omega) ?_; intro v' w7 hown' hgrow hat; obtain ⟨⟨gn, cn, rfl⟩, k3, z3, HNX⟩ := HAPP.out _ (HUD.out.alloc _) v' w7 hown' hgrow; clear hown' hgrow hat)
   refine hK.out _ _ ?_ (fun hHeld => ?_)
   ·first | exact y0 | exact k1 | exact k2 _ | exact k3
   clear hK K
   (try simp only [Act.put, List.setIfInBounds_toArray, List.set_cons_zero, List.set_cons_succ])
   refine wpAnyL_take (i := 8) (oi := ?_) (v := ?_) ?_ (by kernel_rfl) (by kernel_rfl) (by kernel_rfl) (by kernel_rfl) (fun _ _ _ h => h) (Or.inl ⟨?_, ?_⟩) hHeld ?_
   rotate_left 2
   ·simp only [List.getElem?_toArray, List.getElem?_cons_zero, List.getElem?_cons_succ]; rfl
   ·rfl
   ·intro _ hSw; (try dsimp only at hSw); go_simp <;> with_reducible rfl
   (try simp only [Act.put, List.setIfInBounds_toArray, List.set_cons_zero, List.set_cons_succ])
   refine wpAnyL_last (o := ?_) (by kernel_rfl) ?_ (fun K hK => ?_)
   rotate_left 1
   ·simp only [List.getElem?_toArray, List.getElem?_cons_zero, List.getElem?_cons_succ]; rfl
   clear hHeld
   go_simp
   refine hK.out _ _ ?_
   clear hK K
   (try simp only [Act.put, List.setIfInBounds_toArray, List.set_cons_zero, List.set_cons_succ])
   refine wpAnyL_done (by kernel_rfl) ?_ _
   refine NoPanic.normal ?_
   go_wp2_with fail
   go_roundw
   case rel => exact ⟨j + 1, some ⟨gn, 0, none⟩, cn, by omega, by omega, by go_num, HNX.out.1, HNX.out.2.1, HNX.out.2.2⟩
   case measure => simp [intOf]; omega
  ·obtain rfl : j = ks.length := by omega
   generalize hjj : ks.length = j at *
   have hjn : ¬ ((j : Int) < ((bs ks).size : Int)) := by omega
   rw [show full.take j = full from List.take_of_length_le (by rw [HFL.out]; exact Nat.le_refl _)] at HO
   have hHW := HH.out.new HV.out
   obtain ⟨fp, fc, hfv⟩ : ∃ fp fc, X.fv = .slice fp S.frs.length fc := by
    rcases HH.out.frow.2 with ⟨h1, h2⟩ | ⟨g, c, cur, h1, _⟩
    ·exact ⟨none, 0, by rw [h1, h2]⟩
    ·exact ⟨_, c, h1⟩
   have hb := hHW.box
   rw [mccells, hfv] at hb
   have m5 : wo.cell? ⟨mb, 5, none⟩ = some (.slice fp S.frs.length fc) := by rw [cell_of hb]; rfl
   have f0 : wo.cell? ⟨fl, 0, none⟩ = some (.int .i64 m) := by rw [cell_of HB.out]; rfl
   have f1 : wo.cell? ⟨fl, 1, none⟩ = some (.int .i64 0) := by rw [cell_of HB.out]; rfl
   have f2 : wo.cell? ⟨fl, 2, none⟩ = some (.slice lp j lc) := by rw [cell_of HB.out]; rfl
   have f3 : wo.cell? ⟨fl, 3, none⟩ = some (.slice none 0 0) := by rw [cell_of HB.out]; rfl
   have k0 : wo.cell? ⟨mb, 5, none⟩ = some (.slice fp S.frs.length fc) ∧ wo.cell? ⟨fl, 0, none⟩ = some (.int .i64 m) ∧ wo.cell? ⟨fl, 1, none⟩ = some (.int .i64 0) ∧ wo.cell? ⟨fl, 2, none⟩ = some (.slice lp j lc) ∧ wo.cell? ⟨fl, 3, none⟩ = some (.slice none 0 0) := ⟨m5, f0, f1, f2, f3⟩
   have k1 : ∀ O, (wo.drew.alloc O).cell? ⟨mb, 5, none⟩ = some (.slice fp S.frs.length fc) ∧ (wo.drew.alloc O).cell? ⟨fl, 0, none⟩ = some (.int .i64 m) ∧ (wo.drew.alloc O).cell? ⟨fl, 1, none⟩ = some (.int .i64 0) ∧ (wo.drew.alloc O).cell? ⟨fl, 2, none⟩ = some (.slice lp j lc) ∧ (wo.drew.alloc O).cell? ⟨fl, 3, none⟩ = some (.slice none 0 0) := fun O => by
    have hx := ((Upd.refl [] wo).drew).alloc O
    exact ⟨hx.cell m5 (by simp), hx.cell f0 (by simp), hx.cell f1 (by simp), hx.cell f2 (by simp), hx.cell f3 (by simp)⟩
   have HROW : Hid (∀ W, Upd [] wo W → W.ownsRow B 82 4 (.slice fp S.frs.length fc) S.frs.length (fmcells S.frs.reverse X.gs.reverse)) := fun W hW => by
    have h1 := (hHW.new hW).frow
    rwa [hfv] at h1
   have HAPP : Hid (∀ W, Upd [] wo W → ∀ v' w7, w7.ownsRow B 82 4 v' (S.frs.length + 1) (fmcells S.frs.reverse X.gs.reverse ++ [.int .i64 m, .int .i64 0, .slice lp j lc, .slice none 0 0]) → W.grownBy w7 (Value.ownBlock (.slice fp S.frs.length fc)) → (v'.ownBlock = Value.ownBlock (.slice fp S.frs.length fc) ∨ v'.ownBlock = some W.heap.size) → (∃ gn cn, v' = .slice (some ⟨gn, 0, none⟩) (S.frs.length + 1) cn) ∧ (w7.cell? ⟨mb, 5, none⟩ = some (.slice fp S.frs.length fc) ∧ w7.cell? ⟨fl, 0, none⟩ = some (.int .i64 m) ∧ w7.cell? ⟨fl, 1, none⟩ = some (.int .i64 0) ∧ w7.cell? ⟨fl, 2, none⟩ = some (.slice lp j lc) ∧ w7.cell? ⟨fl, 3, none⟩ = some (.slice none 0 0)) ∧ w7.frozen? ⟨mb, 5, none⟩ = false ∧
     Hid ((∃ X', MAt B (w7.setCell ⟨mb, 5, none⟩ v') (U ++ news w (w7.setCell ⟨mb, 5, none⟩ v')) (R ++ news w (w7.setCell ⟨mb, 5, none⟩ v')) mb ib p { S with frs := p.enter m args :: S.frs } X') ∧ Upd R w (w7.setCell ⟨mb, 5, none⟩ v'))) := fun W hW v' w7 hown hgr hat => by
    have hwW := HV.out.trans hW
    have hW2 := HH.out.new hwW
    obtain ⟨gn, cn, cur, hv, hg1, hg2, _⟩ := own_pos hown (by omega)
    have hown' : OwnV 85 W w.heap.size (.slice lp j lc) full := by
     show World.ownsRow _ _ _ 2 _ full.length (vcells full)
     rw [HFL.out]
     exact row_upd HO.out hW (by simp)
    have hBw : B ≤ w.heap.size := Nat.le_of_lt (Nat.lt_of_le_of_lt (HH.out.low mb HH.out.mine).1 (HH.out.low mb HH.out.mine).2)
    have hpush := hW2.pushFrm (w2 := w7) (f := ⟨m, 0, full, []⟩) (lv := .slice lp j lc) (fv' := v') HCUT.out rfl (hown'.low hBw) (fun q hq => by
     have h1 := World.ownsRow.lt hown' q hq
     refine ⟨List.mem_append.2 (.inr (mem_news.2 h1)), fun hm => ?_, fun hm => ?_, fun i hi q2 hq2 hne e => ?_⟩
     ·have := HH.out.loc.lt q hm; omega
     ·have := HH.out.val.lt q hm; omega
     ·obtain ⟨q3, h3, h4⟩ := (HH.out.stk i hi).read
      have h5 := h3.uniq hq2 hne
      have := HH.out.low q3 (h4 hne).1
      omega) hown (by rw [hfv]; exact hgr) (by rw [hfv]; exact hat)
    have hz7 : (w7.setCell ⟨mb, 5, none⟩ v').heap.size = w7.heap.size := size_set _ _ _
    have hu7 : Upd (Value.ownBlock (.slice fp S.frs.length fc)).toList W w7 := (Upd.refl _ W).grown hgr (fun q hq => Or.inl (Option.mem_toList.2 hq))
    have hb7 := hu7.heap hW2.box (fun hm => own_heap_ne (HROW.out W hW) hW2.box (by decide) (Option.mem_toList.1 hm))
    have hfW := hW.heap HB.out (by simp)
    have hnf : fl ∉ (Value.ownBlock (.slice fp S.frs.length fc)).toList := fun hm => by
     have h1 := HH.out.own fl (.inl (by rw [hfv]; exact Option.mem_toList.1 hm))
     have := HH.out.low fl h1
     omega
    have hf7 := hu7.heap hfW hnf
    rw [mccells, hfv] at hb7
    refine ⟨⟨gn, cn, hv⟩, ⟨by rw [cell_of hb7]; rfl, by rw [cell_of hf7]; rfl, by rw [cell_of hf7]; rfl, by rw [cell_of hf7]; rfl, by rw [cell_of hf7]; rfl⟩, froz_of hb7 _, ?_, ?_⟩
    ·have h1 := hpush.1
     have hza : W.heap.size ≤ (w7.setCell ⟨mb, 5, none⟩ v').heap.size := by rw [hz7]; exact hu7.size
     rw [List.append_assoc, List.append_assoc, ← news_app hwW.size hza] at h1
     rw [HEN.out]
     exact ⟨_, h1⟩
    ·refine (hwW.mono (T := R) (by simp)).trans' hpush.2 (fun q hq _ => ?_)
     rcases List.mem_append.1 hq with h1 | h1
     ·exact HH.out.own q (.inl (Option.mem_toList.1 h1))
     ·rw [List.mem_singleton] at h1
      rw [h1]
      exact HH.out.mine
   have HBW : Hid (B ≤ w.heap.size) := Nat.le_of_lt (Nat.lt_of_le_of_lt (HH.out.low mb HH.out.mine).1 (HH.out.low mb HH.out.mine).2)
   clear hb hHW m5 f0 f1 f2 f3 hfv
   go_upto_region 6 with fail
   refine wp_region_noPanic ?_
   refine wp_region_L (S := fun w' => w'.cell? ⟨mb, 5, none⟩ = some (.slice fp S.frs.length fc) ∧ w'.cell? ⟨fl, 0, none⟩ = some (.int .i64 m) ∧ w'.cell? ⟨fl, 1, none⟩ = some (.int .i64 0) ∧ w'.cell? ⟨fl, 2, none⟩ = some (.slice lp j lc) ∧ w'.cell? ⟨fl, 3, none⟩ = some (.slice none 0 0)) 10 (by kernel_rfl) ?_ (fun hHeld => ?_)
   ·first | exact k0 | exact k1 _ | exact k2
   refine Nx.start [(0, []), (1, []), (2, []), (3, []), (4, []), (5, [])] ?_
   iterate 6
    refine Nx.l (oi := ?_) (v := ?_) ?_ (by kernel_rfl) (fun _ _ _ h => h) ?_ ?_ hHeld ?_
    rotate_left 2
    ·simp only [List.getElem?_toArray, List.getElem?_cons_zero, List.getElem?_cons_succ]; rfl
    ·rfl
    ·intro _ hSw; (try dsimp only at hSw); go_simp <;> with_reducible rfl
    (try simp only [Act.put, List.setIfInBounds_toArray, List.set_cons_zero, List.set_cons_succ])
   refine Nx.stop ?_
   refine wpAnyL_one (i := 6) (o := ?_) (by kernel_rfl) ?_ (fun K hK => ?_)
   rotate_left 1
   ·simp only [List.getElem?_toArray, List.getElem?_cons_zero, List.getElem?_cons_succ]; rfl
   clear hHeld
   go_simp
   refine hK.out _ _ ?_ (fun hHeld => ?_)
   ·first | exact k0 | exact k1 _ | exact k2
   clear hK K
   (try simp only [Act.put, List.setIfInBounds_toArray, List.set_cons_zero, List.set_cons_succ])
   refine wpAnyL_one (i := 7) (o := ?_) (by kernel_rfl) ?_ (fun K hK => ?_)
   rotate_left 1
   ·simp only [List.getElem?_toArray, List.getElem?_cons_zero, List.getElem?_cons_succ]; rfl
   clear hHeld
   (refine step_append_own_at rfl (.tmp 43) (.tmp 45) 52 rfl B 82 i1 (.agg #[.int .i64 0, .int .i64 0, .slice none 0 0, .slice none 0 0]) 4 64 Tryd.underlying52 HJ.out HJ0.out HJ1.out HJ2.out rfl (by decide) (.slice fp S.frs.length fc) S.frs.length (fmcells S.frs.reverse X.gs.reverse) rfl (HROW.out _ ((Upd.refl [] wo).drew.alloc _)) ⟨wo.heap.size, 0, none⟩ 1 1 [.int .i64 m, .int .i64 0, .slice lp j lc, .slice none 0 0] rfl rfl (frm_new _ _ _) (by simp [Value.oneCell']) (by unfold maxLen; omega) (by omega) (by have := HSZ.out; have := HBW.out; simp; omega) ?_; intro v' w7 hown' hgrow hat; obtain ⟨⟨gn, cn, rfl⟩, k2, z3, HNX⟩ := HAPP.out _ ((Upd.refl [] wo).drew.alloc _) v' w7 hown' hgrow hat; clear hown' hgrow hat)
   refine hK.out _ _ ?_ (fun hHeld => ?_)
   ·first | exact k0 | exact k1 _ | exact k2
   clear hK K
   (try simp only [Act.put, List.setIfInBounds_toArray, List.set_cons_zero, List.set_cons_succ])
   refine wpAnyL_one (i := 8) (o := ?_) (by kernel_rfl) ?_ (fun K hK => ?_)
   rotate_left 1
   ·simp only [List.getElem?_toArray, List.getElem?_cons_zero, List.getElem?_cons_succ]; rfl
   clear hHeld
   go_simp
   refine hK.out _ _ ?_ (fun hHeld => ?_)
   ·first | exact k0 | exact k1 _ | exact k2
   clear hK K
   (try simp only [Act.put, List.setIfInBounds_toArray, List.set_cons_zero, List.set_cons_succ])
   refine wpAnyL_take (i := 9) (oi := ?_) (v := ?_) ?_ (by kernel_rfl) (by kernel_rfl) (by kernel_rfl) (by kernel_rfl) (fun _ _ _ h => h) (Or.inl ⟨?_, ?_⟩) hHeld ?_
   rotate_left 2
   ·simp only [List.getElem?_toArray, List.getElem?_cons_zero, List.getElem?_cons_succ]; rfl
   ·rfl
   ·intro _ hSw; (try dsimp only at hSw); go_simp <;> with_reducible rfl
   (try simp only [Act.put, List.setIfInBounds_toArray, List.set_cons_zero, List.set_cons_succ])
   refine wpAnyL_last (o := ?_) (by kernel_rfl) ?_ (fun K hK => ?_)
   rotate_left 1
   ·simp only [List.getElem?_toArray, List.getElem?_cons_zero, List.getElem?_cons_succ]; rfl
   clear hHeld
   go_simp
   refine hK.out _ _ ?_
   clear hK K
   (try simp only [Act.put, List.setIfInBounds_toArray, List.set_cons_zero, List.set_cons_succ])
   refine wpAnyL_done (by kernel_rfl) ?_ _
   refine NoPanic.normal ?_
   go_wp2_with fail
   go_end0
   exact ⟨rfl, HNX.out⟩
end Go.Proofs.YtojobkhidlfeoaaDoor
