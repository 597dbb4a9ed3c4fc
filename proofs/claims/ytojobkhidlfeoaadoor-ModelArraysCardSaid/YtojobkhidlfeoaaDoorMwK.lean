/- model: in the midst of Machine.plain: inputs, outputs, objects. model: Machine.plain, kind by kind: In, Out, New, Array. -/
import Derived.Test.YtojobkhidlfeoaaDoorMwH
/-! model: in the midst of Machine.plain: inputs, outputs, objects. -/
namespace Go.Proofs.YtojobkhidlfeoaaDoor
open Go.RowKit

section
variable {B : Nat} {w W W' : World} {U R : List Nat} {mb ib : Nat} {p : Prg} {S : Mc} {X : MX} {f : Fm} {below : List Fm} {fb c n cb : Nat} {x : Ins}
theorem PlS.tyneT (h : PlS B w W U R mb ib p S X fb c n cb x) {T : List Nat} (hT : ∀ b ∈ T, ∃ q t, W.heap[b]? = some (.cells q t) ∧ t ≠ 98 ∧ t ≠ 29) : cb ∉ T ∧ cb + 1 ∉ T := by
 refine ⟨fun hm => ?_, fun hm => ?_⟩
 ·obtain ⟨q, t, hq, h1, _⟩ := hT _ hm
  exact h1 (typ_ne hq h.cbx)
 ·obtain ⟨q, t, hq, _, h1⟩ := hT _ hm
  exact h1 (typ_ne hq h.xbx)
/-- A cell of the box. -/
theorem PlS.boxc (h : PlS B w W U R mb ib p S X fb c n cb x) {k : Nat} {v : Value} (hk : (mccells ib S X)[k]? = some v) : W.cell? ⟨mb, k, none⟩ = some v := by rw [cell_of h.m.box]; exact hk
theorem PlS.boxz (h : PlS B w W U R mb ib p S X fb c n cb x) (k : Nat) : W.frozen? ⟨mb, k, none⟩ = false := froz_of h.m.box k
/-- The outputs' row. -/
theorem PlS.outs (h : PlS B w W U R mb ib p S X fb c n cb x) : ∃ up uc, X.uv = .slice up S.out.length uc := by
 rcases h.m.out.2 with ⟨h1, h2⟩ | ⟨g, c, cur, h1, _⟩
 ·exact ⟨none, 0, by rw [h1, h2]⟩
 ·exact ⟨_, c, h1⟩
theorem PlS.objv (h : PlS B w W U R mb ib p S X fb c n cb x) : ∃ op oc, X.ov = .slice op S.objs.length oc := by
 rcases h.m.orow.2 with ⟨h1, h2⟩ | ⟨g, c, cur, h1, _⟩
 ·exact ⟨none, 0, by rw [h1, h2]⟩
 ·exact ⟨_, c, h1⟩
/-- An output more. -/
theorem PlS.pushOut (h : PlS B w W U R mb ib p S X fb c n cb x) {w2 : World} {k : Int} {v' : Value}
  (hown : w2.ownsRow B 2 1 v' (S.out.length + 1) (S.out.map (.int .i64) ++ [.int .i64 k])) (hgr : W.grownBy w2 X.uv.ownBlock) (hat : v'.ownBlock = X.uv.ownBlock ∨ v'.ownBlock = some W.heap.size) :
  w2.cell? ⟨mb, 12, none⟩ = some X.uv ∧ w2.frozen? ⟨mb, 12, none⟩ = false ∧ Hid (PlS B w (w2.setCell ⟨mb, 12, none⟩ v') U R mb ib p { S with out := S.out ++ [k] } { X with uv := v' } fb c n cb x) := by
 have hu2 : Upd X.uv.ownBlock.toList W w2 := (Upd.refl _ W).grown hgr (fun q hq => Or.inl (Option.mem_toList.2 hq))
 have hb2 : w2.heap[mb]? = some (.cells (mccells ib S X) 78) := hu2.heap h.m.box (fun hm => own_heap_ne h.m.out h.m.box (by decide) (Option.mem_toList.1 hm))
 have hp := h.m.pushOut hown hgr hat
 have hty : ∀ b ∈ X.uv.ownBlock.toList ++ [mb], ∃ q t, W.heap[b]? = some (.cells q t) ∧ t ≠ 98 ∧ t ≠ 29 := fun b hb => by
  rcases List.mem_append.1 hb with h1 | h1
  ·obtain ⟨q, hq⟩ := own_typ h.m.out (Option.mem_toList.1 h1)
   exact ⟨q, _, hq, by decide, by decide⟩
  ·rw [List.mem_singleton] at h1
   subst h1
   exact ⟨_, _, h.m.box, by decide, by decide⟩
 obtain ⟨n1, n2⟩ := h.tyneT hty
 refine ⟨by rw [cell_of hb2]; rfl, froz_of hb2 _, h.turn hp.1 hp.2 (fun b hb => ?_) rfl n1 n2⟩
 rcases List.mem_append.1 hb with h1 | h1
 ·exact h.m.own b (.inr (.inr (.inl (Option.mem_toList.1 h1))))
 ·rw [List.mem_singleton] at h1
  subst h1
  exact h.m.mine
/-- An object more. -/
theorem PlS.pushObj {W0 : World} (h0 : PlS B w W0 U R mb ib p S X fb c n cb x) (hW : Upd [] W0 W) {w2 : World} {o : Ob} {v v' : Value} (hv : OwnV 85 W W0.heap.size v o.vals)
  (hown : w2.ownsRow B 120 2 v' (S.objs.length + 1) (obcells S.objs X.os ++ [.int .i64 o.cls, v])) (hgr : W.grownBy w2 X.ov.ownBlock) (hat : v'.ownBlock = X.ov.ownBlock ∨ v'.ownBlock = some W.heap.size) :
  w2.cell? ⟨mb, 6, none⟩ = some X.ov ∧ w2.frozen? ⟨mb, 6, none⟩ = false ∧ Hid (PlS B w (w2.setCell ⟨mb, 6, none⟩ v') U R mb ib p { S with objs := S.objs ++ [o] } { X with ov := v', os := X.os ++ [v] } fb c n cb x) := by
 have h := h0.keep hW
 have hu2 : Upd X.ov.ownBlock.toList W w2 := (Upd.refl _ W).grown hgr (fun q hq => Or.inl (Option.mem_toList.2 hq))
 have hb2 : w2.heap[mb]? = some (.cells (mccells ib S X) 78) := hu2.heap h.m.box (fun hm => own_heap_ne h.m.orow h.m.box (by decide) (Option.mem_toList.1 hm))
 have hB0 : B ≤ W0.heap.size := Nat.le_of_lt (Nat.lt_of_le_of_lt (h0.m.low mb h0.m.mine).1 (h0.m.low mb h0.m.mine).2)
 have hp := h.m.pushObj (o := o) (hv.low hB0) (fun q hq => by
  have h1 := World.ownsRow.lt hv q hq
  have hsz := h0.upd.size
  refine ⟨List.mem_append.2 (.inr (mem_news.2 ⟨by omega, h1.2⟩)), fun hm => ?_, fun hm => ?_, fun i hi q2 hq2 hne e => ?_⟩
  ·have := h0.m.loc.lt q hm; omega
  ·have := h0.m.val.lt q hm; omega
  ·obtain ⟨q3, h3, h4⟩ := (h0.m.stk i hi).read
   have h5 := h3.uniq hq2 hne
   have := h0.m.low q3 (h4 hne).1
   omega) hown hgr hat
 have hty : ∀ b ∈ X.ov.ownBlock.toList ++ [mb], ∃ q t, W.heap[b]? = some (.cells q t) ∧ t ≠ 98 ∧ t ≠ 29 := fun b hb => by
  rcases List.mem_append.1 hb with h1 | h1
  ·obtain ⟨q, hq⟩ := own_typ h.m.orow (Option.mem_toList.1 h1)
   exact ⟨q, _, hq, by decide, by decide⟩
  ·rw [List.mem_singleton] at h1
   subst h1
   exact ⟨_, _, h.m.box, by decide, by decide⟩
 obtain ⟨n1, n2⟩ := h.tyneT hty
 refine ⟨by rw [cell_of hb2]; rfl, froz_of hb2 _, h.turn hp.1 hp.2 (fun b hb => ?_) rfl n1 n2⟩
 rcases List.mem_append.1 hb with h1 | h1
 ·exact h.m.own b (.inr (.inl (Option.mem_toList.1 h1)))
 ·rw [List.mem_singleton] at h1
  subst h1
  exact h.m.mine
/-- The inputs, one of them taken. -/
theorem PlS.inp (h : PlS B w W U R mb ib p S X fb c n cb x) {k : Int} {r : List Int} (hi : S.inp = k :: r) : ∃ b o ic, X.iv = .slice (some ⟨b, o, none⟩) (r.length + 1) ic ∧ r.length + 1 ≤ ic ∧ ic ≤ maxLen ∧ W.cell? ⟨b, o, none⟩ = some (.int .i64 k) ∧
  ∀ q, (r ≠ [] → q = some ⟨b, o + 1, none⟩) → Hid (PlS B w (W.setCell ⟨mb, 3, none⟩ (.slice q r.length (ic - 1))) U R mb ib p { S with inp := r } { X with iv := .slice q r.length (ic - 1) } fb c n cb x) := by
 obtain ⟨b, o, h1, h2⟩ := h.m.inp
 rw [hi] at h1 h2
 obtain ⟨⟨q0, ic, he, hc1, hc2, hq0⟩, hcell⟩ := h1
 have hc0 := hcell 0 (by simp)
 rw [Nat.add_zero] at hc0
 have hc1' : r.length + 1 ≤ ic := hc1
 refine ⟨b, o, ic, by rw [he, hq0 (by simp)]; rfl, hc1', hc2, hc0, fun q hq => ?_⟩
 have hu : Upd [mb] W (W.setCell ⟨mb, 3, none⟩ (.slice q r.length (ic - 1))) := (Upd.refl [mb] W).setCell (.inl (by simp)) _
 obtain ⟨n1, n2⟩ := h.tyneT (T := [mb]) (fun b hb => by rw [List.mem_singleton] at hb; subst hb; exact ⟨_, _, h.m.box, by decide, by decide⟩)
 refine h.turn0 (h.m.boxed (S' := { S with inp := r }) hu (heap_setCell h.m.box 3 _) rfl rfl rfl ⟨b, o + 1, ⟨⟨q, ic - 1, rfl, (show r.length ≤ ic - 1 by omega), by omega, hq⟩, fun i hi2 => ?_⟩, fun hne => ?_⟩) (size_set _ _ _) hu (fun b hb => ?_) rfl n1 n2
 ·have := hcell (i + 1) (by simpa using hi2)
  rw [show o + 1 + i = o + (i + 1) by omega]
  exact this
 ·exact h2 (by simp)
 ·rw [List.mem_singleton] at hb
  subst hb
  exact h.m.mine
theorem PlS.inp0 (h : PlS B w W U R mb ib p S X fb c n cb x) (hi : S.inp = []) : ∃ q ic, X.iv = .slice q 0 ic := by
 obtain ⟨b, o, h1, _⟩ := h.m.inp
 rw [hi] at h1
 obtain ⟨⟨q0, ic, he, _⟩, _⟩ := h1
 exact ⟨q0, ic, he⟩
/-- A class' letters. -/
theorem PlS.clas (h : PlS B w W U R mb ib p S X fb c n cb x) {i : Nat} (hi : i < p.cs.length) : ∃ b o cc, X.cv = .slice (some ⟨b, o, none⟩) p.cs.length cc ∧ W.cell? ⟨b, o + i, none⟩ = some (.string (p.cs.getD i ByteArray.empty)) := by
 obtain ⟨a, cap, h1, _, _, _, h2⟩ := h.m.cls'
 obtain ⟨b, o, h3, _, h4⟩ := h2 i hi
 exact ⟨b, o, cap, by rw [h1, h3], h4⟩
/-- .. it lies in none of the machine's blocks. -/
theorem PlS.clasU (h : PlS B w W U R mb ib p S X fb c n cb x) {i : Nat} (hi : i < p.cs.length) : ∃ b o cc, b ∉ U ++ news w W ∧ X.cv = .slice (some ⟨b, o, none⟩) p.cs.length cc ∧ W.cell? ⟨b, o + i, none⟩ = some (.string (p.cs.getD i ByteArray.empty)) := by
 obtain ⟨a, cap, h1, _, _, _, h2⟩ := h.m.cls
 obtain ⟨b, o, h3, _, h4⟩ := h2 i hi
 obtain ⟨h5, h6⟩ := offs_cell _ h4
 exact ⟨b, o, cap, h5, by rw [h1, h3], h6⟩
/-- The objects' row grows: what is kept. -/
theorem PlS.grewObj (h : PlS B w W U R mb ib p S X fb c n cb x) {w2 : World} (hgr : W.grownBy w2 X.ov.ownBlock) : Upd X.ov.ownBlock.toList W w2 ∧ cb + 1 ∉ X.ov.ownBlock.toList ∧ mb ∉ X.ov.ownBlock.toList ∧ ∀ b, b ∉ U ++ news w W → b ∉ X.ov.ownBlock.toList := by
 have hty : ∀ b ∈ X.ov.ownBlock.toList, ∃ q t, W.heap[b]? = some (.cells q t) ∧ t ≠ 98 ∧ t ≠ 29 := fun b hb => by
  obtain ⟨q, hq⟩ := own_typ h.m.orow (Option.mem_toList.1 hb)
  exact ⟨q, _, hq, by decide, by decide⟩
 refine ⟨(Upd.refl _ W).grown hgr (fun q hq => Or.inl (Option.mem_toList.2 hq)), (h.tyneT hty).2, fun hm => own_heap_ne h.m.orow h.m.box (by decide) (Option.mem_toList.1 hm), fun b hb hm => hb ?_⟩
 exact h.m.sub b (h.m.own b (.inr (.inl (Option.mem_toList.1 hm))))
theorem made_n {p : Prg} {i n : Nat} : p.made i n = p.made i 0 := by
 unfold Prg.made Prg.lets
 rw [if_pos (by omega), if_pos (by omega)]
end
end Go.Proofs.YtojobkhidlfeoaaDoor

/-! model: Machine.plain, kind by kind: In, Out, New, Array. -/
namespace Go.Proofs.YtojobkhidlfeoaaDoor
open Go.RowKit

theorem long_new (w : World) (z : Int) (j : Nat) (u : Value) (h : ([Value.int .i64 z])[j]? = some u) : (w.alloc (.cells #[.int .i64 z] 2)).cell? ((⟨w.heap.size, 0, none⟩ : Addr).add j) = some u := by
 have h1 := heap_alloc_new w (.cells #[.int .i64 z] 2)
 rw [Addr.add_lit, Nat.zero_add, cell_of h1]
 match j with
 | 0 => exact h
 | j + 1 => simp at h
theorem obj_new (w : World) (z : Int) (v : Value) (j : Nat) (u : Value) (h : ([Value.int .i64 z, v])[j]? = some u) : (w.alloc (.cells #[.int .i64 z, v] 120)).cell? ((⟨w.heap.size, 0, none⟩ : Addr).add j) = some u := by
 have h1 := heap_alloc_new w (.cells #[.int .i64 z, v] 120)
 rw [Addr.add_lit, Nat.zero_add, cell_of h1]
 match j with
 | 0 => exact h
 | 1 => exact h
 | j + 2 => simp at h
theorem Tryd.infoMLong : (Tryd.prog.info? 2).map (fun i => (i.zero, i.size, i.bytes)) = some (some (.int .i64 0), 1, 8) := by kernel_rfl
section
variable {B : Nat} {w : World} {U R : List Nat} {mb ib : Nat} {p : Prg} {S : Mc} {X : MX} {f : Fm} {below : List Fm} {fb c : Nat}

set_option maxRecDepth 100000 in
set_option maxHeartbeats 4000000 in
theorem mplain_34n {xa xb xn : Int} (h : MAt B w U R mb ib p S X) (hf : S.frs = f :: below) (hfv : X.fv = .slice (some ⟨fb, 0, none⟩) (below.length + 1) c) (hi : S.inp = []) :
  Calls Tryd.prog 34 #[.pointer (some ⟨mb, 0, none⟩), .pointer (some ⟨fb, below.length * 4, none⟩), .agg #[.int .i64 34, .int .i64 xa, .int .i64 xb, .int .i64 xn]] w fun e w' => e = .returned (.int .i64 6) ∧ PlEnd B w w' U R mb ib p X S := by
 have H1 := Lib.hid (PlS.start (n := below.length) h hfv ⟨34, xa, xb, xn⟩)
 have HF := Lib.hid hf
 have HFV := Lib.hid hfv
 have hvn := val_n
 have HH := Lib.hid h
 clear h hf hfv
 have HI := Lib.hid hi
 clear hi
 go_enter Tryd.func34, Tryd.ntmps34
 go_upto_region 30 with fail
 generalize (w.alloc (.cells #[.pointer (some ⟨fb, below.length * 4, none⟩)] 98)).alloc (.cells #[.int .i64 34, .int .i64 xa, .int .i64 xb, .int .i64 xn] 29) = w1 at H1 ⊢
 generalize w.heap.size = cb at H1 ⊢
 have HX := Lib.hid H1.out.xbx
 obtain ⟨q, ic, hiv⟩ := H1.out.inp0 HI.out
 have m3 : w1.cell? ⟨mb, 3, none⟩ = some (.slice q 0 ic) := H1.out.boxc (by rw [mccells, hiv]; rfl)
 clear hiv
 go_wp2_with fail
 go_ret
 exact ⟨rfl, H1.out.fin HFV.out⟩

set_option maxRecDepth 100000 in
set_option maxHeartbeats 4000000 in
theorem mplain_34 {xa xb xn : Int} {k : Int} {r : List Int} (h : MAt B w U R mb ib p S X) (hf : S.frs = f :: below) (hfv : X.fv = .slice (some ⟨fb, 0, none⟩) (below.length + 1) c) (hn : f.stk.length ≤ 1000) (hi : S.inp = k :: r) :
  Calls Tryd.prog 34 #[.pointer (some ⟨mb, 0, none⟩), .pointer (some ⟨fb, below.length * 4, none⟩), .agg #[.int .i64 34, .int .i64 xa, .int .i64 xb, .int .i64 xn]] w fun e w' => e = .returned (.int .i64 0) ∧ PlEnd B w w' U R mb ib p X { S with frs := { f with stk := cutV f.stk 0 ++ [vi k] } :: below, inp := r } := by
 have H1 := Lib.hid (PlS.start (n := below.length) h hfv ⟨34, xa, xb, xn⟩)
 have HF := Lib.hid hf
 have HFV := Lib.hid hfv
 have hvn := val_n
 have HH := Lib.hid h
 clear h hf hfv
 have HI := Lib.hid hi
 clear hi
 go_enter Tryd.func34, Tryd.ntmps34
 go_upto_region 30 with fail
 generalize (w.alloc (.cells #[.pointer (some ⟨fb, below.length * 4, none⟩)] 98)).alloc (.cells #[.int .i64 34, .int .i64 xa, .int .i64 xb, .int .i64 xn] 29) = w1 at H1 ⊢
 generalize w.heap.size = cb at H1 ⊢
 have HX := Lib.hid H1.out.xbx
 obtain ⟨ab, ao, ic, hiv, hc1, hc2, ha, _⟩ := H1.out.inp HI.out
 have m3 : w1.cell? ⟨mb, 3, none⟩ = some (.slice (some ⟨ab, ao, none⟩) (r.length + 1) ic) := H1.out.boxc (by rw [mccells, hiv]; rfl)
 clear hiv hc1 hc2
 have hpos : (0 : Int) < ((r.length + 1 : Nat) : Int) := by omega
 have hne0 : ¬ (((r.length + 1 : Nat) : Int) = 0) := by omega
 go_wp2_with fail
 refine (mnum_any k w1).mono ?_
 rintro e w2 ⟨rfl, hu2⟩
 have HP := Lib.hid ((H1.out.keep hu2).put1 HF.out rfl 0 (by omega) hn (vi k))
 clear hu2 m3 ha
 go_wp2_with fail
 refine HP.out.mono ?_
 rintro e w3 ⟨rfl, gs', H3⟩
 obtain ⟨ab2, ao2, ic2, hiv2, hc3, hc4, _, hfin⟩ := H3.out.inp HI.out
 have m3 : w3.cell? ⟨mb, 3, none⟩ = some (.slice (some ⟨ab2, ao2, none⟩) (r.length + 1) ic2) := H3.out.boxc (congrArg some hiv2)
 have z0 := H3.out.boxz 3
 have HFIN := Lib.hid hfin
 clear hfin hiv2
 have hmx : ic2 ≤ 9223372036854775807 := by unfold maxLen at hc4; omega
 have hpos2 : (1 : Int) ≤ ((r.length + 1 : Nat) : Int) := by omega
 clear hc4
 by_cases hcc : ic2 = 1
 ·subst hcc
  obtain ⟨qe, hqe⟩ : ∃ q, q = (some ⟨ab2, ao2, none⟩ : Option Addr) := ⟨_, rfl⟩
  have hr0 : r = [] := List.length_eq_zero_iff.1 (by omega)
  subst hr0
  have HF0 := Lib.hid (HFIN.out (some ⟨ab2, ao2, none⟩) (fun h => absurd rfl h))
  go_wp2_with fail
  go_ret
  exact ⟨rfl, HF0.out.out.fin HFV.out⟩
 ·have hcp : 1 ≤ ic2 - 1 := by omega
  go_wp2_with fail
  go_ret
  exact ⟨rfl, (HFIN.out _ (fun _ => rfl)).out.fin HFV.out⟩

set_option maxRecDepth 100000 in
set_option maxHeartbeats 4000000 in
theorem mplain_35 {xa xb xn : Int} (h : MAt B w U R mb ib p S X) (hf : S.frs = f :: below) (hfv : X.fv = .slice (some ⟨fb, 0, none⟩) (below.length + 1) c) (hn : f.stk.length ≤ 1000) (hl : 1 ≤ f.stk.length) (hro : S.out.length ≤ 300000) :
  Calls Tryd.prog 34 #[.pointer (some ⟨mb, 0, none⟩), .pointer (some ⟨fb, below.length * 4, none⟩), .agg #[.int .i64 35, .int .i64 xa, .int .i64 xb, .int .i64 xn]] w fun e w' => e = .returned (.int .i64 0) ∧ PlEnd B w w' U R mb ib p X { S with frs := { f with stk := cutV f.stk 1 } :: below, out := S.out ++ [(tp f.stk 0).n] } := by
 have H1 := Lib.hid (PlS.start (n := below.length) h hfv ⟨35, xa, xb, xn⟩)
 have HF := Lib.hid hf
 have HFV := Lib.hid hfv
 have hvn := val_n
 have HH := Lib.hid h
 clear h hf hfv
 obtain ⟨tr, tn, htv⟩ : ∃ tr tn, tp f.stk 0 = ⟨tr, tn⟩ := ⟨_, _, rfl⟩
 rw [htv]
 have HTV := Lib.hid htv
 clear htv
 obtain ⟨i0, hj, hj0, hj1, hj2⟩ := info_parts Tryd.infoMLong
 have HJ := Lib.hid hj
 have HJ0 := Lib.hid hj0
 have HJ1 := Lib.hid hj1
 have HJ2 := Lib.hid hj2
 clear hj hj0 hj1 hj2
 go_enter Tryd.func34, Tryd.ntmps34
 go_upto_region 35 with fail
 generalize (w.alloc (.cells #[.pointer (some ⟨fb, below.length * 4, none⟩)] 98)).alloc (.cells #[.int .i64 35, .int .i64 xa, .int .i64 xb, .int .i64 xn] 29) = w1 at H1 ⊢
 generalize w.heap.size = cb at H1 ⊢
 have HX := Lib.hid H1.out.xbx
 obtain ⟨up, uc, huv⟩ := H1.out.outs
 have k0 : w1.cell? ⟨mb, 12, none⟩ = some (.slice up S.out.length uc) := H1.out.boxc (by rw [mccells, huv]; rfl)
 have HT := Lib.hid ((H1.out.keep ((Upd.refl [] w1).drew)).top HF.out rfl 0 (by omega))
 have HK : Hid (∀ W, Hid (PlS B w W U R mb ib p S X fb c below.length cb ⟨35, xa, xb, xn⟩) → W.cell? ⟨mb, 12, none⟩ = some (.slice up S.out.length uc) ∧ (∀ o, (W.alloc o).cell? ⟨mb, 12, none⟩ = some (.slice up S.out.length uc)) ∧ Hid (B ≤ W.heap.size) ∧ Hid ((W.alloc (.cells #[.int .i64 tn] 2)).ownsRow B 2 1 (.slice up S.out.length uc) S.out.length (S.out.map (.int .i64))) ∧
   Hid (∀ v' w7, w7.ownsRow B 2 1 v' (S.out.length + 1) (S.out.map (.int .i64) ++ [.int .i64 tn]) → (W.alloc (.cells #[.int .i64 tn] 2)).grownBy w7 (Value.ownBlock (.slice up S.out.length uc)) → (v'.ownBlock = Value.ownBlock (.slice up S.out.length uc) ∨ v'.ownBlock = some (W.alloc (.cells #[.int .i64 tn] 2)).heap.size) →
    w7.cell? ⟨mb, 12, none⟩ = some (.slice up S.out.length uc) ∧ w7.frozen? ⟨mb, 12, none⟩ = false ∧ Hid (Hid (PlS B w (w7.setCell ⟨mb, 12, none⟩ v') U R mb ib p { S with out := S.out ++ [tn] } { X with uv := v' } fb c below.length cb ⟨35, xa, xb, xn⟩)))) := fun W hP => by
  have hb : W.cell? ⟨mb, 12, none⟩ = some (.slice up S.out.length uc) := hP.out.boxc (by rw [mccells, huv]; rfl)
  have hP1 := hP.out.keep ((Upd.refl [] W).alloc (.cells #[.int .i64 tn] 2))
  refine ⟨hb, fun o => ((Upd.refl [] W).alloc o).cell hb (by simp), Nat.le_of_lt (Nat.lt_of_le_of_lt (hP.out.m.low mb hP.out.m.mine).1 (hP.out.m.low mb hP.out.m.mine).2), ?_, fun v' w7 ho hg ha => ?_⟩
  ·have h1 := hP1.m.out
   rw [huv] at h1
   exact h1
  ·rw [← huv] at hg ha ⊢
   exact hP1.pushOut ho hg ha
 clear huv
 refine wp_region_noPanic ?_
 refine wp_region_L (S := fun w' => w'.cell? ⟨mb, 12, none⟩ = some (.slice up S.out.length uc)) 14 (by kernel_rfl) ?_ (fun hHeld => ?_)
 ·first | exact k0 | exact k1 | exact k2 _ | exact k3
 refine Nx.start [(0, [14]), (1, [14]), (2, [14]), (3, [14]), (4, [14]), (5, [14]), (6, [14])] ?_
 iterate 7
  refine Nx.p (oi := ?_) (v := ?_) ?_ (by kernel_rfl) (fun _ _ _ h => h) ?_ ?_ hHeld ?_
  rotate_left 2
  ·simp only [List.getElem?_toArray, List.getElem?_cons_zero, List.getElem?_cons_succ]; rfl
  ·rfl
  ·intro _ hSw; (try dsimp only at hSw); go_simp <;> with_reducible rfl
  (try simp only [Act.put, List.setIfInBounds_toArray, List.set_cons_zero, List.set_cons_succ])
 refine Nx.stop ?_
 refine wpAnyL_one (i := 7) (o := ?_) (by kernel_rfl) ?_ (fun K hK => ?_)
 rotate_left 1
 ·simp only [List.getElem?_toArray, List.getElem?_cons_zero, List.getElem?_cons_succ]; rfl
 clear hHeld
 go_simp
 (go_at_call 44; refine (HT.out).mono ?_; rintro e w2 ⟨he, H2, hu2⟩; rw [HTV.out] at he; subst he; obtain ⟨k1, k2, HSZ, HROW, HAPP⟩ := HK.out w2 H2; clear hu2)
 try go_wp2_with fail
 refine hK.out _ _ ?_ (fun hHeld => ?_)
 ·first | exact k0 | exact k1 | exact k2 _ | exact k3
 clear hK K
 (try simp only [Act.put, List.setIfInBounds_toArray, List.set_cons_zero, List.set_cons_succ])
 refine wpAnyL_takeP (i := 8) [14] (oi := ?_) (v := ?_) ?_ (by kernel_rfl) (by kernel_rfl) (by kernel_rfl) (by kernel_rfl) (fun _ _ _ h => h) (Or.inl ⟨?_, ?_⟩) hHeld ?_
 rotate_left 2
 ·simp only [List.getElem?_toArray, List.getElem?_cons_zero, List.getElem?_cons_succ]; rfl
 ·rfl
 ·intro _ hSw; (try dsimp only at hSw); go_simp <;> with_reducible rfl
 (try simp only [Act.put, List.setIfInBounds_toArray, List.set_cons_zero, List.set_cons_succ])
 refine wpAnyL_one (i := 9) (o := ?_) (by kernel_rfl) ?_ (fun K hK => ?_)
 rotate_left 1
 ·simp only [List.getElem?_toArray, List.getElem?_cons_zero, List.getElem?_cons_succ]; rfl
 clear hHeld
 go_simp
 refine hK.out _ _ ?_ (fun hHeld => ?_)
 ·first | exact k0 | exact k1 | exact k2 _ | exact k3
 clear hK K
 (try simp only [Act.put, List.setIfInBounds_toArray, List.set_cons_zero, List.set_cons_succ])
 refine wpAnyL_one (i := 10) (o := ?_) (by kernel_rfl) ?_ (fun K hK => ?_)
 rotate_left 1
 ·simp only [List.getElem?_toArray, List.getElem?_cons_zero, List.getElem?_cons_succ]; rfl
 clear hHeld
 (refine step_append_own_at rfl (.tmp 167) (.tmp 171) 22 rfl B 2 i0 (.int .i64 0) 1 8 Tryd.underlying22 HJ.out HJ0.out HJ1.out HJ2.out rfl (by decide) (.slice up S.out.length uc) S.out.length (S.out.map (.int .i64)) rfl HROW.out ⟨w2.heap.size, 0, none⟩ 1 1 [.int .i64 tn] rfl rfl (long_new _ _) (by simp [Value.oneCell']) (by unfold maxLen; omega) (by omega) (by have := HSZ.out; simp; omega) ?_; intro v' w7 hown' hgrow hat; obtain ⟨k3, z3, HNX⟩ := HAPP.out v' w7 hown' hgrow hat; have hsv := own_pos hown' (by omega); obtain ⟨gn, cn, cur, rfl, _⟩ := hsv; clear hown' hgrow hat)
 refine hK.out _ _ ?_ (fun hHeld => ?_)
 ·first | exact k0 | exact k1 | exact k2 _ | exact k3
 clear hK K
 (try simp only [Act.put, List.setIfInBounds_toArray, List.set_cons_zero, List.set_cons_succ])
 refine Nx.start [(11, [12, 13, 14]), (12, [13, 14]), (13, [14])] ?_
 iterate 3
  refine Nx.p (oi := ?_) (v := ?_) ?_ (by kernel_rfl) (fun _ _ _ h => h) ?_ ?_ hHeld ?_
  rotate_left 2
  ·simp only [List.getElem?_toArray, List.getElem?_cons_zero, List.getElem?_cons_succ]; rfl
  ·rfl
  ·intro _ hSw; (try dsimp only at hSw); go_simp <;> with_reducible rfl
  (try simp only [Act.put, List.setIfInBounds_toArray, List.set_cons_zero, List.set_cons_succ])
 refine Nx.stop ?_
 refine wpAnyL_last (o := ?_) (by kernel_rfl) ?_ (fun K hK => ?_)
 rotate_left 1
 ·simp only [List.getElem?_toArray, List.getElem?_cons_zero, List.getElem?_cons_succ]; rfl
 clear hHeld
 go_simp
 refine hK.out _ _ ?_
 clear hK K
 (try simp only [Act.put, List.setIfInBounds_toArray, List.set_cons_zero, List.set_cons_succ])
 refine wpAnyL_done (by kernel_rfl) ?_ _
 refine NoPanic.normal ?_
 go_wp2_with fail
 refine (HNX.out.out.put0 (f := f) HF.out rfl 1 hl hn).mono ?_
 rintro e w8 ⟨rfl, gs', H3⟩
 go_wp2_with fail
 go_ret
 exact ⟨rfl, H3.out.fin HFV.out⟩

set_option maxRecDepth 100000 in
set_option maxHeartbeats 4000000 in
theorem mplain_24 {xb xn : Int} {i : Nat} (h : MAt B w U R mb ib p S X) (hf : S.frs = f :: below) (hfv : X.fv = .slice (some ⟨fb, 0, none⟩) (below.length + 1) c) (hn : f.stk.length ≤ 1000) (hi : i < p.cs.length) (hsz : (p.cs.getD i ByteArray.empty).size ≤ 50) (hro : S.objs.length ≤ 300000) :
  Calls Tryd.prog 34 #[.pointer (some ⟨mb, 0, none⟩), .pointer (some ⟨fb, below.length * 4, none⟩), .agg #[.int .i64 24, .int .i64 i, .int .i64 xb, .int .i64 xn]] w fun e w' => e = .returned (.int .i64 0) ∧ PlEnd B w w' U R mb ib p X { S with frs := { f with stk := cutV f.stk 0 ++ [vr S.objs.length] } :: below, objs := S.objs ++ [p.made i 0] } := by
 have H1 := Lib.hid (PlS.start (n := below.length) h hfv ⟨24, i, xb, xn⟩)
 have HF := Lib.hid hf
 have HFV := Lib.hid hfv
 have hvn := val_n
 have HH := Lib.hid h
 clear h hf hfv
 obtain ⟨fl, hfl⟩ : ∃ fl, p.cs.getD i ByteArray.empty = fl := ⟨_, rfl⟩
 have hln : (p.lets i fl.size).length = fl.size := by
  unfold Prg.lets
  rw [if_pos (by omega), Int.toNat_natCast, hfl, size_list]
 have HLN := Lib.hid hln
 have HFL := Lib.hid hfl
 rw [hfl] at hsz
 have hmd : p.made i 0 = p.made i fl.size := made_n.symm
 rw [hmd]
 clear hln hfl hmd
 obtain ⟨i0, hj, hj0, hj1, hj2⟩ := info_parts Tryd.infoMObject
 have HJ := Lib.hid hj
 have HJ0 := Lib.hid hj0
 have HJ1 := Lib.hid hj1
 have HJ2 := Lib.hid hj2
 clear hj hj0 hj1 hj2
 go_enter Tryd.func34, Tryd.ntmps34
 go_upto_region 38 with fail
 generalize (w.alloc (.cells #[.pointer (some ⟨fb, below.length * 4, none⟩)] 98)).alloc (.cells #[.int .i64 24, .int .i64 i, .int .i64 xb, .int .i64 xn] 29) = w1 at H1 ⊢
 generalize w.heap.size = cb at H1 ⊢
 have HX := Lib.hid H1.out.xbx
 obtain ⟨op, oc, hov⟩ := H1.out.objv
 obtain ⟨lb, lo, lc, hlu, hcv, l4⟩ := H1.out.clasU hi
 rw [HFL.out] at l4
 have l1 : w1.cell? ⟨mb, 6, none⟩ = some (.slice op S.objs.length oc) := H1.out.boxc (congrArg some hov)
 have l2 : w1.cell? ⟨cb + 1, 1, none⟩ = some (.int .i64 i) := by rw [cell_of HX.out]; rfl
 have l3 : w1.cell? ⟨mb, 1, none⟩ = some (.slice (some ⟨lb, lo, none⟩) p.cs.length lc) := H1.out.boxc (congrArg some hcv)
 have k0 : w1.cell? ⟨mb, 6, none⟩ = some (.slice op S.objs.length oc) ∧ w1.cell? ⟨cb + 1, 1, none⟩ = some (.int .i64 i) ∧ w1.cell? ⟨mb, 1, none⟩ = some (.slice (some ⟨lb, lo, none⟩) p.cs.length lc) ∧ w1.cell? ⟨lb, lo + i, none⟩ = some (.string fl) := ⟨l1, l2, l3, l4⟩
 have HM := Lib.hid (mmade_any (H1.out.keep ((Upd.refl [] w1).drew)).m i ⟨by omega, by omega⟩ fl.size HLN.out hsz)
 have HK : Hid (∀ W q vc, Hid (Upd [] w1.drew W) → OwnV 85 W w1.drew.heap.size (.slice q fl.size vc) (p.made i fl.size).vals → (W.cell? ⟨mb, 6, none⟩ = some (.slice op S.objs.length oc) ∧ W.cell? ⟨cb + 1, 1, none⟩ = some (.int .i64 i) ∧ W.cell? ⟨mb, 1, none⟩ = some (.slice (some ⟨lb, lo, none⟩) p.cs.length lc) ∧ W.cell? ⟨lb, lo + i, none⟩ = some (.string fl)) ∧ (∀ o, (W.alloc o).cell? ⟨mb, 6, none⟩ = some (.slice op S.objs.length oc) ∧ (W.alloc o).cell? ⟨cb + 1, 1, none⟩ = some (.int .i64 i) ∧ (W.alloc o).cell? ⟨mb, 1, none⟩ = some (.slice (some ⟨lb, lo, none⟩) p.cs.length lc) ∧ (W.alloc o).cell? ⟨lb, lo + i, none⟩ = some (.string fl)) ∧ Hid (B ≤ W.heap.size) ∧ Hid ((W.alloc (.cells #[.int .i64 i, .slice q fl.size vc] 120)).ownsRow B 120 2 (.slice op S.objs.length oc) S.objs.length (obcells S.objs X.os)) ∧
   Hid (∀ v' w7, w7.ownsRow B 120 2 v' (S.objs.length + 1) (obcells S.objs X.os ++ [.int .i64 i, .slice q fl.size vc]) → (W.alloc (.cells #[.int .i64 i, .slice q fl.size vc] 120)).grownBy w7 (Value.ownBlock (.slice op S.objs.length oc)) → (v'.ownBlock = Value.ownBlock (.slice op S.objs.length oc) ∨ v'.ownBlock = some (W.alloc (.cells #[.int .i64 i, .slice q fl.size vc] 120)).heap.size) →
    (w7.cell? ⟨mb, 6, none⟩ = some (.slice op S.objs.length oc) ∧ w7.cell? ⟨cb + 1, 1, none⟩ = some (.int .i64 i) ∧ w7.cell? ⟨mb, 1, none⟩ = some (.slice (some ⟨lb, lo, none⟩) p.cs.length lc) ∧ w7.cell? ⟨lb, lo + i, none⟩ = some (.string fl)) ∧ w7.frozen? ⟨mb, 6, none⟩ = false ∧ Hid (Hid (PlS B w (w7.setCell ⟨mb, 6, none⟩ v') U R mb ib p { S with objs := S.objs ++ [p.made i fl.size] } { X with ov := v', os := X.os ++ [.slice q fl.size vc] } fb c below.length cb ⟨24, i, xb, xn⟩)))) := fun W q vc hW hv => by
  have hd := (Upd.refl [] w1).drew
  have hx := hd.trans hW.out
  have hxa := hW.out.alloc (.cells #[.int .i64 i, .slice q fl.size vc] 120)
  have hP0 := H1.out.keep hd
  have hP1 := hP0.keep hxa
  refine ⟨⟨hx.cell l1 (by simp), hx.cell l2 (by simp), hx.cell l3 (by simp), hx.cell l4 (by simp)⟩, fun o => ⟨(hx.alloc o).cell l1 (by simp), (hx.alloc o).cell l2 (by simp), (hx.alloc o).cell l3 (by simp), (hx.alloc o).cell l4 (by simp)⟩, ?_, ?_, fun v' w7 ho hg ha => ?_⟩
  ·have h1 := (hP0.keep hW.out).m
   exact Nat.le_of_lt (Nat.lt_of_le_of_lt (h1.low mb h1.mine).1 (h1.low mb h1.mine).2)
  ·have h1 := hP1.m.orow
   rw [hov] at h1
   exact h1
  ·rw [← hov] at hg ha
   obtain ⟨hu7, n1, n2, n3⟩ := hP1.grewObj hg
   have hy := hd.trans hxa
   have h6 := hP0.pushObj hxa (o := p.made i fl.size) (hv.upd ((Upd.refl [] W).alloc _) (by simp)) ho hg ha
   have n4 := n3 lb (fun hm => by
    rcases List.mem_append.1 hm with h7 | h7
    ·exact hlu (List.mem_append.2 (.inl h7))
    ·have h8 := (mem_news.1 h7).1
     have h9 := World.block_lt_of_cell? w1 _ l4
     exact hlu (List.mem_append.2 (.inr (mem_news.2 ⟨h8, h9⟩))))
   exact ⟨⟨hu7.cell (hy.cell l1 (by simp)) n2, hu7.cell (hy.cell l2 (by simp)) n1, hu7.cell (hy.cell l3 (by simp)) n2, hu7.cell (hy.cell l4 (by simp)) n4⟩, h6.2.1, h6.2.2⟩
 clear l1 l2 l3 l4 hov hcv hlu
 have hii : (i : Int) < (p.cs.length : Int) := by omega
 have hi0 : (0 : Int) ≤ (i : Int) := by omega
 have hfs : (fl.size : Int) ≤ 50 := by omega
 refine wp_region_noPanic ?_
 refine wp_region_L (S := fun w' => w'.cell? ⟨mb, 6, none⟩ = some (.slice op S.objs.length oc) ∧ w'.cell? ⟨cb + 1, 1, none⟩ = some (.int .i64 i) ∧ w'.cell? ⟨mb, 1, none⟩ = some (.slice (some ⟨lb, lo, none⟩) p.cs.length lc) ∧ w'.cell? ⟨lb, lo + i, none⟩ = some (.string fl)) 24 (by kernel_rfl) ?_ (fun hHeld => ?_)
 ·first | exact k0 | exact k1 | exact k2 _ | exact k3
 refine Nx.start [(0, [24]), (1, [24]), (2, [24]), (3, [24]), (4, [24]), (5, [24]), (6, [24]), (7, [24]), (8, [24]), (9, [24]), (10, [24]), (11, [24]), (12, [24]), (13, [24]), (14, [24]), (15, [24]), (16, [24]), (17, [24]), (18, [24])] ?_
 iterate 19
  refine Nx.p (oi := ?_) (v := ?_) ?_ (by kernel_rfl) (fun _ _ _ h => h) ?_ ?_ hHeld ?_
  rotate_left 2
  ·simp only [List.getElem?_toArray, List.getElem?_cons_zero, List.getElem?_cons_succ]; rfl
  ·rfl
  ·intro _ hSw; (try dsimp only at hSw); go_simp <;> with_reducible rfl
  (try simp only [Act.put, List.setIfInBounds_toArray, List.set_cons_zero, List.set_cons_succ])
 refine Nx.stop ?_
 refine wpAnyL_one (i := 19) (o := ?_) (by kernel_rfl) ?_ (fun K hK => ?_)
 rotate_left 1
 ·simp only [List.getElem?_toArray, List.getElem?_cons_zero, List.getElem?_cons_succ]; rfl
 clear hHeld
 go_simp
 (go_at_call 49; refine (HM.out).mono ?_; rintro e w2 ⟨q, vc, rfl, ho2, hu2⟩; obtain ⟨k1, k2, HSZ, HROW, HAPP⟩ := HK.out w2 q vc hu2 ho2; clear hu2 ho2)
 try go_wp2_with fail
 refine hK.out _ _ ?_ (fun hHeld => ?_)
 ·first | exact k0 | exact k1 | exact k2 _ | exact k3
 clear hK K
 (try simp only [Act.put, List.setIfInBounds_toArray, List.set_cons_zero, List.set_cons_succ])
 refine wpAnyL_one (i := 20) (o := ?_) (by kernel_rfl) ?_ (fun K hK => ?_)
 rotate_left 1
 ·simp only [List.getElem?_toArray, List.getElem?_cons_zero, List.getElem?_cons_succ]; rfl
 clear hHeld
 go_simp
 refine hK.out _ _ ?_ (fun hHeld => ?_)
 ·first | exact k0 | exact k1 | exact k2 _ | exact k3
 clear hK K
 (try simp only [Act.put, List.setIfInBounds_toArray, List.set_cons_zero, List.set_cons_succ])
 refine wpAnyL_one (i := 21) (o := ?_) (by kernel_rfl) ?_ (fun K hK => ?_)
 rotate_left 1
 ·simp only [List.getElem?_toArray, List.getElem?_cons_zero, List.getElem?_cons_succ]; rfl
 clear hHeld
 (refine step_append_own_at rfl (.tmp 184) (.tmp 200) 76 rfl B 120 i0 (.agg #[.int .i64 0, .slice none 0 0]) 2 32 Tryd.underlying76 HJ.out HJ0.out HJ1.out HJ2.out rfl (by decide) (.slice op S.objs.length oc) S.objs.length (obcells S.objs X.os) rfl HROW.out ⟨w2.heap.size, 0, none⟩ 1 1 [.int .i64 i, .slice q fl.size vc] rfl rfl (obj_new _ _ _) (by simp [Value.oneCell']) (by unfold maxLen; omega) (by omega) (by have := HSZ.out; simp; omega) ?_; intro v' w7 hown' hgrow hat; obtain ⟨k3, z3, HNX⟩ := HAPP.out v' w7 hown' hgrow hat; have hsv := own_pos hown' (by omega); obtain ⟨gn, cn, cur, rfl, _⟩ := hsv; clear hown' hgrow hat)
 refine hK.out _ _ ?_ (fun hHeld => ?_)
 ·first | exact k0 | exact k1 | exact k2 _ | exact k3
 clear hK K
 (try simp only [Act.put, List.setIfInBounds_toArray, List.set_cons_zero, List.set_cons_succ])
 refine Nx.start [(22, [23, 24]), (23, [24])] ?_
 iterate 2
  refine Nx.p (oi := ?_) (v := ?_) ?_ (by kernel_rfl) (fun _ _ _ h => h) ?_ ?_ hHeld ?_
  rotate_left 2
  ·simp only [List.getElem?_toArray, List.getElem?_cons_zero, List.getElem?_cons_succ]; rfl
  ·rfl
  ·intro _ hSw; (try dsimp only at hSw); go_simp <;> with_reducible rfl
  (try simp only [Act.put, List.setIfInBounds_toArray, List.set_cons_zero, List.set_cons_succ])
 refine Nx.stop ?_
 refine wpAnyL_last (o := ?_) (by kernel_rfl) ?_ (fun K hK => ?_)
 rotate_left 1
 ·simp only [List.getElem?_toArray, List.getElem?_cons_zero, List.getElem?_cons_succ]; rfl
 clear hHeld
 go_simp
 refine hK.out _ _ ?_
 clear hK K
 (try simp only [Act.put, List.setIfInBounds_toArray, List.set_cons_zero, List.set_cons_succ])
 refine wpAnyL_done (by kernel_rfl) ?_ _
 refine NoPanic.normal ?_
 have HP8 := HNX.out
 have HXO : Hid ((S.objs ++ [p.made i fl.size]).length = S.objs.length + 1) := List.length_append
 have m6 : (w7.setCell ⟨mb, 6, none⟩ (.slice (some ⟨gn, 0, none⟩) (S.objs.length + 1) cn)).cell? ⟨mb, 6, none⟩ = some (.slice (some ⟨gn, 0, none⟩) (S.objs.length + 1) cn) := HP8.out.boxc rfl
 have HP9 := Lib.hid (HP8.out.put1 (f := f) HF.out rfl 0 (by omega) hn (vr S.objs.length))
 have s1 : IntKind.i64.wrap (((S.objs.length + 1 : Nat) : Int) - 1) = (S.objs.length : Int) := by rw [IntWalk.i64_in _ (by omega)]; omega
 generalize w7.setCell ⟨mb, 6, none⟩ (.slice (some ⟨gn, 0, none⟩) (S.objs.length + 1) cn) = w8 at m6 HP9 ⊢
 go_wp2_with fail
 refine HP9.out.mono ?_
 rintro e w9 ⟨rfl, gs', H3⟩
 go_wp2_with fail
 go_ret
 exact ⟨rfl, H3.out.fin HFV.out⟩

set_option maxRecDepth 100000 in
set_option maxHeartbeats 4000000 in
theorem mplain_28t {xa xb xn : Int} (h : MAt B w U R mb ib p S X) (hf : S.frs = f :: below) (hfv : X.fv = .slice (some ⟨fb, 0, none⟩) (below.length + 1) c) (hl : 1 ≤ f.stk.length) (hb : (tp f.stk 0).n < 0 ∨ 50 < (tp f.stk 0).n) :
  Calls Tryd.prog 34 #[.pointer (some ⟨mb, 0, none⟩), .pointer (some ⟨fb, below.length * 4, none⟩), .agg #[.int .i64 28, .int .i64 xa, .int .i64 xb, .int .i64 xn]] w fun e w' => e = .returned (.int .i64 4) ∧ PlEnd B w w' U R mb ib p X S := by
 have H1 := Lib.hid (PlS.start (n := below.length) h hfv ⟨28, xa, xb, xn⟩)
 have HF := Lib.hid hf
 have HFV := Lib.hid hfv
 have hvn := val_n
 have HH := Lib.hid h
 clear h hf hfv
 obtain ⟨tr, tn, htv⟩ : ∃ tr tn, tp f.stk 0 = ⟨tr, tn⟩ := ⟨_, _, rfl⟩
 rw [htv] at hb
 have HTV := Lib.hid htv
 clear htv
 go_enter Tryd.func34, Tryd.ntmps34
 go_upto_region 41 with fail
 generalize (w.alloc (.cells #[.pointer (some ⟨fb, below.length * 4, none⟩)] 98)).alloc (.cells #[.int .i64 28, .int .i64 xa, .int .i64 xb, .int .i64 xn] 29) = w1 at H1 ⊢
 generalize w.heap.size = cb at H1 ⊢
 have HX := Lib.hid H1.out.xbx
 go_wp2_with fail
 refine (H1.out.top HF.out rfl 0 (by omega)).mono ?_
 rintro e w2 ⟨he, H2, _⟩
 rw [HTV.out] at he
 subst he
 by_cases hneg : tn < 0
 ·go_wp2_with fail
  go_ret
  exact ⟨rfl, H2.out.fin HFV.out⟩
 ·have hbig : 50 < tn := by omega
  go_wp2_with fail
  go_ret
  exact ⟨rfl, H2.out.fin HFV.out⟩

set_option maxRecDepth 100000 in
set_option maxHeartbeats 4000000 in
theorem mplain_28 {xb xn : Int} {i k : Nat} (h : MAt B w U R mb ib p S X) (hf : S.frs = f :: below) (hfv : X.fv = .slice (some ⟨fb, 0, none⟩) (below.length + 1) c) (hn : f.stk.length ≤ 1000) (hi : i ≤ 1) (hl : 1 ≤ f.stk.length) (hk : (tp f.stk 0).n = (k : Int)) (hk2 : k ≤ 50) (hro : S.objs.length ≤ 300000) :
  Calls Tryd.prog 34 #[.pointer (some ⟨mb, 0, none⟩), .pointer (some ⟨fb, below.length * 4, none⟩), .agg #[.int .i64 28, .int .i64 i, .int .i64 xb, .int .i64 xn]] w fun e w' => e = .returned (.int .i64 0) ∧ PlEnd B w w' U R mb ib p X { S with frs := { f with stk := cutV f.stk 1 ++ [vr S.objs.length] } :: below, objs := S.objs ++ [p.made (-1 - (i : Int)) k] } := by
 have H1 := Lib.hid (PlS.start (n := below.length) h hfv ⟨28, i, xb, xn⟩)
 have HF := Lib.hid hf
 have HFV := Lib.hid hfv
 have hvn := val_n
 have HH := Lib.hid h
 clear h hf hfv
 obtain ⟨tr, htv⟩ : ∃ tr, tp f.stk 0 = ⟨tr, (k : Int)⟩ := ⟨(tp f.stk 0).ref, by rw [← hk]⟩
 have HTV := Lib.hid htv
 clear htv
 have hln : (p.lets (-1 - (i : Int)) k).length = k := by
  unfold Prg.lets
  rw [if_neg (by omega), List.length_replicate]
 have HLN := Lib.hid hln
 clear hln hk
 obtain ⟨i0, hj, hj0, hj1, hj2⟩ := info_parts Tryd.infoMObject
 have HJ := Lib.hid hj
 have HJ0 := Lib.hid hj0
 have HJ1 := Lib.hid hj1
 have HJ2 := Lib.hid hj2
 clear hj hj0 hj1 hj2
 go_enter Tryd.func34, Tryd.ntmps34
 go_upto_region 41 with fail
 generalize (w.alloc (.cells #[.pointer (some ⟨fb, below.length * 4, none⟩)] 98)).alloc (.cells #[.int .i64 28, .int .i64 i, .int .i64 xb, .int .i64 xn] 29) = w1 at H1 ⊢
 generalize w.heap.size = cb at H1 ⊢
 have HX := Lib.hid H1.out.xbx
 go_wp2_with fail
 refine (H1.out.top HF.out rfl 0 (by omega)).mono ?_
 rintro e w2 ⟨he, H2, _⟩
 rw [HTV.out] at he
 subst he
 have hk0 : ¬ ((k : Int) < 0) := by omega
 have hk5 : ¬ (50 < (k : Int)) := by omega
 go_upto_region 44 with fail
 obtain ⟨w1, rfl⟩ : ∃ w1 : World, w1 = w2 := ⟨_, rfl⟩
 clear H1
 have H1 := H2
 clear H2
 have HX := Lib.hid H1.out.xbx
 obtain ⟨op, oc, hov⟩ := H1.out.objv
 have l1 : w1.cell? ⟨mb, 6, none⟩ = some (.slice op S.objs.length oc) := H1.out.boxc (congrArg some hov)
 have l2 : w1.cell? ⟨cb + 1, 1, none⟩ = some (.int .i64 i) := by rw [cell_of HX.out]; rfl
 have k0 : w1.cell? ⟨mb, 6, none⟩ = some (.slice op S.objs.length oc) ∧ w1.cell? ⟨cb + 1, 1, none⟩ = some (.int .i64 i) := ⟨l1, l2⟩
 have hcls : (-2 : Int) ≤ -1 - (i : Int) ∧ -1 - (i : Int) < p.cs.length := by omega
 have HM := Lib.hid (mmade_any (H1.out.keep ((Upd.refl [] w1).drew)).m (-1 - (i : Int)) hcls k HLN.out hk2)
 have s0 : IntKind.i64.wrap (-1 - (i : Int)) = -1 - (i : Int) := IntWalk.i64_in _ (by omega)
 have HK : Hid (∀ W q vc, Hid (Upd [] w1.drew W) → OwnV 85 W w1.drew.heap.size (.slice q k vc) (p.made (-1 - (i : Int)) k).vals → (W.cell? ⟨mb, 6, none⟩ = some (.slice op S.objs.length oc) ∧ W.cell? ⟨cb + 1, 1, none⟩ = some (.int .i64 i)) ∧ (∀ o, (W.alloc o).cell? ⟨mb, 6, none⟩ = some (.slice op S.objs.length oc) ∧ (W.alloc o).cell? ⟨cb + 1, 1, none⟩ = some (.int .i64 i)) ∧ Hid (B ≤ W.heap.size) ∧ Hid ((W.alloc (.cells #[.int .i64 (-1 - (i : Int)), .slice q k vc] 120)).ownsRow B 120 2 (.slice op S.objs.length oc) S.objs.length (obcells S.objs X.os)) ∧
   Hid (∀ v' w7, w7.ownsRow B 120 2 v' (S.objs.length + 1) (obcells S.objs X.os ++ [.int .i64 (-1 - (i : Int)), .slice q k vc]) → (W.alloc (.cells #[.int .i64 (-1 - (i : Int)), .slice q k vc] 120)).grownBy w7 (Value.ownBlock (.slice op S.objs.length oc)) → (v'.ownBlock = Value.ownBlock (.slice op S.objs.length oc) ∨ v'.ownBlock = some (W.alloc (.cells #[.int .i64 (-1 - (i : Int)), .slice q k vc] 120)).heap.size) →
    (w7.cell? ⟨mb, 6, none⟩ = some (.slice op S.objs.length oc) ∧ w7.cell? ⟨cb + 1, 1, none⟩ = some (.int .i64 i)) ∧ w7.frozen? ⟨mb, 6, none⟩ = false ∧ Hid (Hid (PlS B w (w7.setCell ⟨mb, 6, none⟩ v') U R mb ib p { S with objs := S.objs ++ [p.made (-1 - (i : Int)) k] } { X with ov := v', os := X.os ++ [.slice q k vc] } fb c below.length cb ⟨28, i, xb, xn⟩)))) := fun W q vc hW hv => by
  have hd := (Upd.refl [] w1).drew
  have hx := hd.trans hW.out
  have hxa := hW.out.alloc (.cells #[.int .i64 (-1 - (i : Int)), .slice q k vc] 120)
  have hP0 := H1.out.keep hd
  have hP1 := hP0.keep hxa
  refine ⟨⟨hx.cell l1 (by simp), hx.cell l2 (by simp)⟩, fun o => ⟨(hx.alloc o).cell l1 (by simp), (hx.alloc o).cell l2 (by simp)⟩, ?_, ?_, fun v' w7 ho hg ha => ?_⟩
  ·have h1 := (hP0.keep hW.out).m
   exact Nat.le_of_lt (Nat.lt_of_le_of_lt (h1.low mb h1.mine).1 (h1.low mb h1.mine).2)
  ·have h1 := hP1.m.orow
   rw [hov] at h1
   exact h1
  ·rw [← hov] at hg ha
   obtain ⟨hu7, n1, n2, n3⟩ := hP1.grewObj hg
   have hy := hd.trans hxa
   have h6 := hP0.pushObj hxa (o := p.made (-1 - (i : Int)) k) (hv.upd ((Upd.refl [] W).alloc _) (by simp)) ho hg ha
   exact ⟨⟨hu7.cell (hy.cell l1 (by simp)) n2, hu7.cell (hy.cell l2 (by simp)) n1⟩, h6.2.1, h6.2.2⟩
 clear l1 l2 hov
 refine wp_region_noPanic ?_
 refine wp_region_L (S := fun w' => w'.cell? ⟨mb, 6, none⟩ = some (.slice op S.objs.length oc) ∧ w'.cell? ⟨cb + 1, 1, none⟩ = some (.int .i64 i)) 15 (by kernel_rfl) ?_ (fun hHeld => ?_)
 ·first | exact k0 | exact k1 | exact k2 _ | exact k3
 refine Nx.start [(0, [15]), (1, [15]), (2, [15]), (3, [15]), (4, [15]), (5, [15]), (6, [15]), (7, [15]), (8, [15]), (9, [15])] ?_
 iterate 10
  refine Nx.p (oi := ?_) (v := ?_) ?_ (by kernel_rfl) (fun _ _ _ h => h) ?_ ?_ hHeld ?_
  rotate_left 2
  ·simp only [List.getElem?_toArray, List.getElem?_cons_zero, List.getElem?_cons_succ]; rfl
  ·rfl
  ·intro _ hSw; (try dsimp only at hSw); go_simp <;> with_reducible rfl
  (try simp only [Act.put, List.setIfInBounds_toArray, List.set_cons_zero, List.set_cons_succ])
 refine Nx.stop ?_
 refine wpAnyL_one (i := 10) (o := ?_) (by kernel_rfl) ?_ (fun K hK => ?_)
 rotate_left 1
 ·simp only [List.getElem?_toArray, List.getElem?_cons_zero, List.getElem?_cons_succ]; rfl
 clear hHeld
 go_simp
 (go_at_call 49; refine (HM.out).mono ?_; rintro e w2 ⟨q, vc, rfl, ho2, hu2⟩; obtain ⟨k1, k2, HSZ, HROW, HAPP⟩ := HK.out w2 q vc hu2 ho2; clear hu2 ho2)
 try go_wp2_with fail
 refine hK.out _ _ ?_ (fun hHeld => ?_)
 ·first | exact k0 | exact k1 | exact k2 _ | exact k3
 clear hK K
 (try simp only [Act.put, List.setIfInBounds_toArray, List.set_cons_zero, List.set_cons_succ])
 refine wpAnyL_one (i := 11) (o := ?_) (by kernel_rfl) ?_ (fun K hK => ?_)
 rotate_left 1
 ·simp only [List.getElem?_toArray, List.getElem?_cons_zero, List.getElem?_cons_succ]; rfl
 clear hHeld
 go_simp
 refine hK.out _ _ ?_ (fun hHeld => ?_)
 ·first | exact k0 | exact k1 | exact k2 _ | exact k3
 clear hK K
 (try simp only [Act.put, List.setIfInBounds_toArray, List.set_cons_zero, List.set_cons_succ])
 refine wpAnyL_one (i := 12) (o := ?_) (by kernel_rfl) ?_ (fun K hK => ?_)
 rotate_left 1
 ·simp only [List.getElem?_toArray, List.getElem?_cons_zero, List.getElem?_cons_succ]; rfl
 clear hHeld
 (refine step_append_own_at rfl (.tmp 229) (.tmp 236) 76 rfl B 120 i0 (.agg #[.int .i64 0, .slice none 0 0]) 2 32 Tryd.underlying76 HJ.out HJ0.out HJ1.out HJ2.out rfl (by decide) (.slice op S.objs.length oc) S.objs.length (obcells S.objs X.os) rfl HROW.out ⟨w2.heap.size, 0, none⟩ 1 1 [.int .i64 (-1 - (i : Int)), .slice q k vc] rfl rfl (obj_new _ _ _) (by simp [Value.oneCell']) (by unfold maxLen; omega) (by omega) (by have := HSZ.out; simp; omega) ?_; intro v' w7 hown' hgrow hat; obtain ⟨k3, z3, HNX⟩ := HAPP.out v' w7 hown' hgrow hat; have hsv := own_pos hown' (by omega); obtain ⟨gn, cn, cur, rfl, _⟩ := hsv; clear hown' hgrow hat)
 refine hK.out _ _ ?_ (fun hHeld => ?_)
 ·first | exact k0 | exact k1 | exact k2 _ | exact k3
 clear hK K
 (try simp only [Act.put, List.setIfInBounds_toArray, List.set_cons_zero, List.set_cons_succ])
 refine Nx.start [(13, [14, 15]), (14, [15])] ?_
 iterate 2
  refine Nx.p (oi := ?_) (v := ?_) ?_ (by kernel_rfl) (fun _ _ _ h => h) ?_ ?_ hHeld ?_
  rotate_left 2
  ·simp only [List.getElem?_toArray, List.getElem?_cons_zero, List.getElem?_cons_succ]; rfl
  ·rfl
  ·intro _ hSw; (try dsimp only at hSw); go_simp <;> with_reducible rfl
  (try simp only [Act.put, List.setIfInBounds_toArray, List.set_cons_zero, List.set_cons_succ])
 refine Nx.stop ?_
 refine wpAnyL_last (o := ?_) (by kernel_rfl) ?_ (fun K hK => ?_)
 rotate_left 1
 ·simp only [List.getElem?_toArray, List.getElem?_cons_zero, List.getElem?_cons_succ]; rfl
 clear hHeld
 go_simp
 refine hK.out _ _ ?_
 clear hK K
 (try simp only [Act.put, List.setIfInBounds_toArray, List.set_cons_zero, List.set_cons_succ])
 refine wpAnyL_done (by kernel_rfl) ?_ _
 refine NoPanic.normal ?_
 have HP8 := HNX.out
 have HXO : Hid ((S.objs ++ [p.made (-1 - (i : Int)) k]).length = S.objs.length + 1) := List.length_append
 have m6 : (w7.setCell ⟨mb, 6, none⟩ (.slice (some ⟨gn, 0, none⟩) (S.objs.length + 1) cn)).cell? ⟨mb, 6, none⟩ = some (.slice (some ⟨gn, 0, none⟩) (S.objs.length + 1) cn) := HP8.out.boxc rfl
 have HP9 := Lib.hid (HP8.out.put1 (f := f) HF.out rfl 1 hl hn (vr S.objs.length))
 have s1 : IntKind.i64.wrap (((S.objs.length + 1 : Nat) : Int) - 1) = (S.objs.length : Int) := by rw [IntWalk.i64_in _ (by omega)]; omega
 generalize w7.setCell ⟨mb, 6, none⟩ (.slice (some ⟨gn, 0, none⟩) (S.objs.length + 1) cn) = w8 at m6 HP9 ⊢
 go_wp2_with fail
 refine HP9.out.mono ?_
 rintro e w9 ⟨rfl, gs', H3⟩
 go_wp2_with fail
 go_ret
 exact ⟨rfl, H3.out.fin HFV.out⟩

end
end Go.Proofs.YtojobkhidlfeoaaDoor
