/- model: Machine.touch: no object, its class, its length, a field's value. model: Machine.touch: a field, an element stored; an element's value. model: Machine.touch, Machine.plain: any instruction. model: Machine.plain: any instruction. -/
import Derived.Test.YtojobkhidlfeoaaDoorMwK
/-! model: Machine.touch: no object, its class, its length, a field's value. -/
namespace Go.Proofs.YtojobkhidlfeoaaDoor
open Go.RowKit

section
variable {B : Nat} {w W W' : World} {U R : List Nat} {mb ib : Nat} {p : Prg} {S : Mc} {X : MX} {f : Fm} {below : List Fm} {fb c n cb : Nat} {x : Ins}
/-- An object. -/
theorem PlS.obj (h : PlS B w W U R mb ib p S X fb c n cb x) {r : Nat} {oj : Ob} (ho : S.objs.getD r default = oj) (hr : r < S.objs.length) : ∃ ob oc vb vc, W.cell? ⟨mb, 6, none⟩ = some (.slice (some ⟨ob, 0, none⟩) S.objs.length oc) ∧ W.cell? ⟨ob, r * 2, none⟩ = some (.int .i64 oj.cls) ∧ W.cell? ⟨ob, r * 2 + 1, none⟩ = some (.slice vb oj.vals.length vc) ∧ X.os.getD r default = .slice vb oj.vals.length vc := by
 subst ho
 obtain ⟨ob, oc, vb, vc, h1, _, _, h2, h3, h4, _⟩ := h.m.obj hr
 exact ⟨ob, oc, vb, vc, h.boxc (congrArg some h1), h2, h3, h4⟩
/-- A value of an object. -/
theorem PlS.val (h : PlS B w W U R mb ib p S X fb c n cb x) {r i : Nat} {oj : Ob} (ho : S.objs.getD r default = oj) (hr : r < S.objs.length) (hi : i < oj.vals.length) : ∃ g vc, X.os.getD r default = .slice (some ⟨g, 0, none⟩) oj.vals.length vc ∧ (W.cell? ⟨g, i * 2, none⟩ = some (.bool (oj.vals.getD i default).ref) ∧ W.cell? ⟨g, i * 2 + 1, none⟩ = some (.int .i64 (oj.vals.getD i default).n)) ∧ (∀ k, W.frozen? ⟨g, k, none⟩ = false) ∧
  ∀ v : Vl, Hid (PlS B w ((W.setCell ⟨g, i * 2, none⟩ (.bool v.ref)).setCell ⟨g, i * 2 + 1, none⟩ (.int .i64 v.n)) U R mb ib p { S with objs := S.objs.set r ⟨oj.cls, oj.vals.set i v⟩ } X fb c n cb x) := by
 subst ho
 obtain ⟨ob, oc, vb, vc, h1, _, _, h2, h3, h4, h5⟩ := h.m.obj hr
 obtain ⟨g, vc2, he, x0, x1, _, _⟩ := h5.cell hi
 have hgb : X.os.getD r default = .slice (some ⟨g, 0, none⟩) (S.objs.getD r default).vals.length vc2 := by rw [h4, he]
 have hol : X.os.length = S.objs.length := by have := h.m.val.len; simpa using this
 have hgo : g ∈ blks X.os := mem_blks (i := r) (by omega) (by rw [hgb]; rfl)
 obtain ⟨q, hq⟩ := h.m.val.typ g hgo
 refine ⟨g, vc2, hgb, ⟨x0, x1⟩, fun k => froz_of hq k, fun v => ?_⟩
 obtain ⟨h6, h7⟩ := h.m.setVal v hr hi hgb
 obtain ⟨n1, n2⟩ := h.tyne ⟨q, hq⟩ (by decide) (by decide)
 exact h.turn0 h6 (by rw [size_set, size_set]) h7 (fun b hb => by rw [List.mem_singleton] at hb; rw [hb]; exact h.m.own g (.inr (.inr (.inr (.inr hgo))))) rfl n1 n2
end
section
variable {B : Nat} {w W : World} {U R : List Nat} {mb ib : Nat} {p : Prg} {S : Mc} {X : MX} {f : Fm} {below : List Fm} {fb c cb : Nat}

set_option maxRecDepth 100000 in
set_option maxHeartbeats 4000000 in
theorem mtouch_25n {xa xb xn : Int} (h : PlS B w W U R mb ib p S X fb c below.length cb ⟨25, xa, xb, xn⟩) (hf : S.frs = f :: below) (hl : 1 ≤ f.stk.length) (hr : (tp f.stk 0).n = (-1)) :
  Calls Tryd.prog 50 #[.pointer (some ⟨mb, 0, none⟩), .agg #[.int .i64 25, .int .i64 xa, .int .i64 xb, .int .i64 xn], .func (.func 44) #[] #[.pointer (some ⟨cb, 0, none⟩)], .func (.func 45) #[] #[.pointer (some ⟨cb, 0, none⟩)]] W fun e W' => e = .returned (.int .i64 1) ∧ ∃ X', Hid (PlS B w W' U R mb ib p S X' fb c below.length cb ⟨25, xa, xb, xn⟩) := by
 have H1 := Lib.hid (h.keep ((Upd.refl [] W).alloc (.cells #[.int .i64 25, .int .i64 xa, .int .i64 xb, .int .i64 xn] 29)))
 have hA := heap_alloc_new W (.cells #[.int .i64 25, .int .i64 xa, .int .i64 xb, .int .i64 xn] 29)
 have HF := Lib.hid hf
 have hvn := val_n
 obtain ⟨qr, hqv⟩ : ∃ qr, tp f.stk 0 = ⟨qr, (-1)⟩ := ⟨(tp f.stk 0).ref, by rw [← hr]⟩
 have HQV := Lib.hid hqv
 clear h hf hr hqv
 go_enter Tryd.func50, Tryd.ntmps50
 go_upto_region 2 with fail
 generalize W.alloc (.cells #[.int .i64 25, .int .i64 xa, .int .i64 xb, .int .i64 xn] 29) = w1 at H1 hA ⊢
 generalize W.heap.size = tb at hA ⊢
 have HA := Lib.hid hA
 have t0 : w1.cell? ⟨tb, 0, none⟩ = some (.int .i64 25) := by rw [cell_of hA]; rfl
 clear hA
 go_wp2_with fail
 refine (H1.out.top HF.out rfl 0 (by omega)).mono ?_
 rintro e w2 ⟨he, H2, hu2⟩
 rw [HQV.out] at he
 subst he
 have HA2 := Lib.hid (hu2.out.heap HA.out (by simp))
 have s0 : w2.cell? ⟨tb, 0, none⟩ = some (.int .i64 25) := by rw [cell_of HA2.out]; rfl
 have s1 : w2.cell? ⟨tb, 1, none⟩ = some (.int .i64 xa) := by rw [cell_of HA2.out]; rfl
 have s2 : w2.cell? ⟨tb, 2, none⟩ = some (.int .i64 xb) := by rw [cell_of HA2.out]; rfl
 clear hu2 t0 H1
 go_wp2_with fail
 go_ret
 exact ⟨rfl, _, H2⟩

set_option maxRecDepth 100000 in
set_option maxHeartbeats 4000000 in
theorem mtouch_26n {xa xb xn : Int} (h : PlS B w W U R mb ib p S X fb c below.length cb ⟨26, xa, xb, xn⟩) (hf : S.frs = f :: below) (hl : 2 ≤ f.stk.length) (hr : (tp f.stk 1).n = (-1)) :
  Calls Tryd.prog 50 #[.pointer (some ⟨mb, 0, none⟩), .agg #[.int .i64 26, .int .i64 xa, .int .i64 xb, .int .i64 xn], .func (.func 44) #[] #[.pointer (some ⟨cb, 0, none⟩)], .func (.func 45) #[] #[.pointer (some ⟨cb, 0, none⟩)]] W fun e W' => e = .returned (.int .i64 1) ∧ ∃ X', Hid (PlS B w W' U R mb ib p S X' fb c below.length cb ⟨26, xa, xb, xn⟩) := by
 have H1 := Lib.hid (h.keep ((Upd.refl [] W).alloc (.cells #[.int .i64 26, .int .i64 xa, .int .i64 xb, .int .i64 xn] 29)))
 have hA := heap_alloc_new W (.cells #[.int .i64 26, .int .i64 xa, .int .i64 xb, .int .i64 xn] 29)
 have HF := Lib.hid hf
 have hvn := val_n
 obtain ⟨qr, hqv⟩ : ∃ qr, tp f.stk 1 = ⟨qr, (-1)⟩ := ⟨(tp f.stk 1).ref, by rw [← hr]⟩
 have HQV := Lib.hid hqv
 clear h hf hr hqv
 go_enter Tryd.func50, Tryd.ntmps50
 go_upto_region 2 with fail
 generalize W.alloc (.cells #[.int .i64 26, .int .i64 xa, .int .i64 xb, .int .i64 xn] 29) = w1 at H1 hA ⊢
 generalize W.heap.size = tb at hA ⊢
 have HA := Lib.hid hA
 have t0 : w1.cell? ⟨tb, 0, none⟩ = some (.int .i64 26) := by rw [cell_of hA]; rfl
 clear hA
 go_wp2_with fail
 refine (H1.out.top HF.out rfl 1 (by omega)).mono ?_
 rintro e w2 ⟨he, H2, hu2⟩
 rw [HQV.out] at he
 subst he
 have HA2 := Lib.hid (hu2.out.heap HA.out (by simp))
 have s0 : w2.cell? ⟨tb, 0, none⟩ = some (.int .i64 26) := by rw [cell_of HA2.out]; rfl
 have s1 : w2.cell? ⟨tb, 1, none⟩ = some (.int .i64 xa) := by rw [cell_of HA2.out]; rfl
 have s2 : w2.cell? ⟨tb, 2, none⟩ = some (.int .i64 xb) := by rw [cell_of HA2.out]; rfl
 clear hu2 t0 H1
 go_wp2_with fail
 go_ret
 exact ⟨rfl, _, H2⟩

set_option maxRecDepth 100000 in
set_option maxHeartbeats 4000000 in
theorem mtouch_29n {xa xb xn : Int} (h : PlS B w W U R mb ib p S X fb c below.length cb ⟨29, xa, xb, xn⟩) (hf : S.frs = f :: below) (hl : 2 ≤ f.stk.length) (hr : (tp f.stk 1).n = (-1)) :
  Calls Tryd.prog 50 #[.pointer (some ⟨mb, 0, none⟩), .agg #[.int .i64 29, .int .i64 xa, .int .i64 xb, .int .i64 xn], .func (.func 44) #[] #[.pointer (some ⟨cb, 0, none⟩)], .func (.func 45) #[] #[.pointer (some ⟨cb, 0, none⟩)]] W fun e W' => e = .returned (.int .i64 1) ∧ ∃ X', Hid (PlS B w W' U R mb ib p S X' fb c below.length cb ⟨29, xa, xb, xn⟩) := by
 have H1 := Lib.hid (h.keep ((Upd.refl [] W).alloc (.cells #[.int .i64 29, .int .i64 xa, .int .i64 xb, .int .i64 xn] 29)))
 have hA := heap_alloc_new W (.cells #[.int .i64 29, .int .i64 xa, .int .i64 xb, .int .i64 xn] 29)
 have HF := Lib.hid hf
 have hvn := val_n
 obtain ⟨qr, hqv⟩ : ∃ qr, tp f.stk 1 = ⟨qr, (-1)⟩ := ⟨(tp f.stk 1).ref, by rw [← hr]⟩
 have HQV := Lib.hid hqv
 clear h hf hr hqv
 go_enter Tryd.func50, Tryd.ntmps50
 go_upto_region 2 with fail
 generalize W.alloc (.cells #[.int .i64 29, .int .i64 xa, .int .i64 xb, .int .i64 xn] 29) = w1 at H1 hA ⊢
 generalize W.heap.size = tb at hA ⊢
 have HA := Lib.hid hA
 have t0 : w1.cell? ⟨tb, 0, none⟩ = some (.int .i64 29) := by rw [cell_of hA]; rfl
 clear hA
 go_wp2_with fail
 refine (H1.out.top HF.out rfl 1 (by omega)).mono ?_
 rintro e w2 ⟨he, H2, hu2⟩
 rw [HQV.out] at he
 subst he
 have HA2 := Lib.hid (hu2.out.heap HA.out (by simp))
 have s0 : w2.cell? ⟨tb, 0, none⟩ = some (.int .i64 29) := by rw [cell_of HA2.out]; rfl
 have s1 : w2.cell? ⟨tb, 1, none⟩ = some (.int .i64 xa) := by rw [cell_of HA2.out]; rfl
 have s2 : w2.cell? ⟨tb, 2, none⟩ = some (.int .i64 xb) := by rw [cell_of HA2.out]; rfl
 clear hu2 t0 H1
 go_wp2_with fail
 go_ret
 exact ⟨rfl, _, H2⟩

set_option maxRecDepth 100000 in
set_option maxHeartbeats 4000000 in
theorem mtouch_30n {xa xb xn : Int} (h : PlS B w W U R mb ib p S X fb c below.length cb ⟨30, xa, xb, xn⟩) (hf : S.frs = f :: below) (hl : 3 ≤ f.stk.length) (hr : (tp f.stk 2).n = (-1)) :
  Calls Tryd.prog 50 #[.pointer (some ⟨mb, 0, none⟩), .agg #[.int .i64 30, .int .i64 xa, .int .i64 xb, .int .i64 xn], .func (.func 44) #[] #[.pointer (some ⟨cb, 0, none⟩)], .func (.func 45) #[] #[.pointer (some ⟨cb, 0, none⟩)]] W fun e W' => e = .returned (.int .i64 1) ∧ ∃ X', Hid (PlS B w W' U R mb ib p S X' fb c below.length cb ⟨30, xa, xb, xn⟩) := by
 have H1 := Lib.hid (h.keep ((Upd.refl [] W).alloc (.cells #[.int .i64 30, .int .i64 xa, .int .i64 xb, .int .i64 xn] 29)))
 have hA := heap_alloc_new W (.cells #[.int .i64 30, .int .i64 xa, .int .i64 xb, .int .i64 xn] 29)
 have HF := Lib.hid hf
 have hvn := val_n
 obtain ⟨qr, hqv⟩ : ∃ qr, tp f.stk 2 = ⟨qr, (-1)⟩ := ⟨(tp f.stk 2).ref, by rw [← hr]⟩
 have HQV := Lib.hid hqv
 clear h hf hr hqv
 go_enter Tryd.func50, Tryd.ntmps50
 go_upto_region 2 with fail
 generalize W.alloc (.cells #[.int .i64 30, .int .i64 xa, .int .i64 xb, .int .i64 xn] 29) = w1 at H1 hA ⊢
 generalize W.heap.size = tb at hA ⊢
 have HA := Lib.hid hA
 have t0 : w1.cell? ⟨tb, 0, none⟩ = some (.int .i64 30) := by rw [cell_of hA]; rfl
 clear hA
 go_wp2_with fail
 refine (H1.out.top HF.out rfl 2 (by omega)).mono ?_
 rintro e w2 ⟨he, H2, hu2⟩
 rw [HQV.out] at he
 subst he
 have HA2 := Lib.hid (hu2.out.heap HA.out (by simp))
 have s0 : w2.cell? ⟨tb, 0, none⟩ = some (.int .i64 30) := by rw [cell_of HA2.out]; rfl
 have s1 : w2.cell? ⟨tb, 1, none⟩ = some (.int .i64 xa) := by rw [cell_of HA2.out]; rfl
 have s2 : w2.cell? ⟨tb, 2, none⟩ = some (.int .i64 xb) := by rw [cell_of HA2.out]; rfl
 clear hu2 t0 H1
 go_wp2_with fail
 go_ret
 exact ⟨rfl, _, H2⟩

set_option maxRecDepth 100000 in
set_option maxHeartbeats 4000000 in
theorem mtouch_31n {xa xb xn : Int} (h : PlS B w W U R mb ib p S X fb c below.length cb ⟨31, xa, xb, xn⟩) (hf : S.frs = f :: below) (hl : 1 ≤ f.stk.length) (hr : (tp f.stk 0).n = (-1)) :
  Calls Tryd.prog 50 #[.pointer (some ⟨mb, 0, none⟩), .agg #[.int .i64 31, .int .i64 xa, .int .i64 xb, .int .i64 xn], .func (.func 44) #[] #[.pointer (some ⟨cb, 0, none⟩)], .func (.func 45) #[] #[.pointer (some ⟨cb, 0, none⟩)]] W fun e W' => e = .returned (.int .i64 1) ∧ ∃ X', Hid (PlS B w W' U R mb ib p S X' fb c below.length cb ⟨31, xa, xb, xn⟩) := by
 have H1 := Lib.hid (h.keep ((Upd.refl [] W).alloc (.cells #[.int .i64 31, .int .i64 xa, .int .i64 xb, .int .i64 xn] 29)))
 have hA := heap_alloc_new W (.cells #[.int .i64 31, .int .i64 xa, .int .i64 xb, .int .i64 xn] 29)
 have HF := Lib.hid hf
 have hvn := val_n
 obtain ⟨qr, hqv⟩ : ∃ qr, tp f.stk 0 = ⟨qr, (-1)⟩ := ⟨(tp f.stk 0).ref, by rw [← hr]⟩
 have HQV := Lib.hid hqv
 clear h hf hr hqv
 go_enter Tryd.func50, Tryd.ntmps50
 go_upto_region 2 with fail
 generalize W.alloc (.cells #[.int .i64 31, .int .i64 xa, .int .i64 xb, .int .i64 xn] 29) = w1 at H1 hA ⊢
 generalize W.heap.size = tb at hA ⊢
 have HA := Lib.hid hA
 have t0 : w1.cell? ⟨tb, 0, none⟩ = some (.int .i64 31) := by rw [cell_of hA]; rfl
 clear hA
 go_wp2_with fail
 refine (H1.out.top HF.out rfl 0 (by omega)).mono ?_
 rintro e w2 ⟨he, H2, hu2⟩
 rw [HQV.out] at he
 subst he
 have HA2 := Lib.hid (hu2.out.heap HA.out (by simp))
 have s0 : w2.cell? ⟨tb, 0, none⟩ = some (.int .i64 31) := by rw [cell_of HA2.out]; rfl
 have s1 : w2.cell? ⟨tb, 1, none⟩ = some (.int .i64 xa) := by rw [cell_of HA2.out]; rfl
 have s2 : w2.cell? ⟨tb, 2, none⟩ = some (.int .i64 xb) := by rw [cell_of HA2.out]; rfl
 clear hu2 t0 H1
 go_wp2_with fail
 go_ret
 exact ⟨rfl, _, H2⟩

set_option maxRecDepth 100000 in
set_option maxHeartbeats 4000000 in
theorem mtouch_27n {xa xb xn : Int} (h : PlS B w W U R mb ib p S X fb c below.length cb ⟨27, xa, xb, xn⟩) (hf : S.frs = f :: below) (hn : f.stk.length ≤ 1000) (hl : 1 ≤ f.stk.length) (hr : (tp f.stk 0).n = (-1)) :
  Calls Tryd.prog 50 #[.pointer (some ⟨mb, 0, none⟩), .agg #[.int .i64 27, .int .i64 xa, .int .i64 xb, .int .i64 xn], .func (.func 44) #[] #[.pointer (some ⟨cb, 0, none⟩)], .func (.func 45) #[] #[.pointer (some ⟨cb, 0, none⟩)]] W fun e W' => e = .returned (.int .i64 0) ∧ ∃ X', Hid (PlS B w W' U R mb ib p { S with frs := { f with stk := cutV f.stk 1 ++ [vi 0] } :: below } X' fb c below.length cb ⟨27, xa, xb, xn⟩) := by
 have H1 := Lib.hid (h.keep ((Upd.refl [] W).alloc (.cells #[.int .i64 27, .int .i64 xa, .int .i64 xb, .int .i64 xn] 29)))
 have hA := heap_alloc_new W (.cells #[.int .i64 27, .int .i64 xa, .int .i64 xb, .int .i64 xn] 29)
 have HF := Lib.hid hf
 have hvn := val_n
 obtain ⟨qr, hqv⟩ : ∃ qr, tp f.stk 0 = ⟨qr, (-1)⟩ := ⟨(tp f.stk 0).ref, by rw [← hr]⟩
 have HQV := Lib.hid hqv
 clear h hf hr hqv
 go_enter Tryd.func50, Tryd.ntmps50
 go_upto_region 2 with fail
 generalize W.alloc (.cells #[.int .i64 27, .int .i64 xa, .int .i64 xb, .int .i64 xn] 29) = w1 at H1 hA ⊢
 generalize W.heap.size = tb at hA ⊢
 have HA := Lib.hid hA
 have t0 : w1.cell? ⟨tb, 0, none⟩ = some (.int .i64 27) := by rw [cell_of hA]; rfl
 clear hA
 go_wp2_with fail
 refine (H1.out.top HF.out rfl 0 (by omega)).mono ?_
 rintro e w2 ⟨he, H2, hu2⟩
 rw [HQV.out] at he
 subst he
 have HA2 := Lib.hid (hu2.out.heap HA.out (by simp))
 have s0 : w2.cell? ⟨tb, 0, none⟩ = some (.int .i64 27) := by rw [cell_of HA2.out]; rfl
 have s1 : w2.cell? ⟨tb, 1, none⟩ = some (.int .i64 xa) := by rw [cell_of HA2.out]; rfl
 have s2 : w2.cell? ⟨tb, 2, none⟩ = some (.int .i64 xb) := by rw [cell_of HA2.out]; rfl
 clear hu2 t0 H1
 have HP := Lib.hid ((H2.out.keep ((Upd.refl [] w2).drew)).put1 HF.out rfl 1 hl hn (vi 0))
 have HTR := Lib.hid (mtruth_any false w2.drew)
 have k0 : w2.cell? ⟨tb, 1, none⟩ = some (.int .i64 xa) := s1
 have k1 : ∀ o, (w2.drew.alloc o).cell? ⟨tb, 1, none⟩ = some (.int .i64 xa) := fun o => (((Upd.refl [] w2).drew).alloc o).cell s1 (by simp)
 go_upto_region 10 with fail
 refine wp_region_noPanic ?_
 refine wp_region_L (S := fun w' => w'.cell? ⟨tb, 1, none⟩ = some (.int .i64 xa)) 19 (by kernel_rfl) ?_ (fun hHeld => ?_)
 ·first | exact k0 | exact k1 _
 refine Nx.start [(0, [19]), (1, [2, 3, 16, 19]), (2, [3, 16, 19]), (3, [16, 19])] ?_
 iterate 4
  refine Nx.p (oi := ?_) (v := ?_) ?_ (by kernel_rfl) (fun _ _ _ h => h) ?_ ?_ hHeld ?_
  rotate_left 2
  ·simp only [List.getElem?_toArray, List.getElem?_cons_zero, List.getElem?_cons_succ]; rfl
  ·rfl
  ·intro _ hSw; (try dsimp only at hSw); go_simp <;> with_reducible rfl
  (try simp only [Act.put, List.setIfInBounds_toArray, List.set_cons_zero, List.set_cons_succ])
 refine Nx.stop ?_
 refine wpAnyL_takeP (i := 4) [5, 6, 7, 9, 10, 11, 14, 15, 16, 19] (oi := ?_) (v := undef) ?_ (by kernel_rfl) (by kernel_rfl) (by kernel_rfl) (by kernel_rfl) (fun _ _ _ h => h) (Or.inr ⟨?_, rfl⟩) hHeld ?_
 rotate_left 1
 ·simp only [List.getElem?_toArray, List.getElem?_cons_zero, List.getElem?_cons_succ]; rfl
 ·rfl
 (try simp only [Act.put, List.setIfInBounds_toArray, List.set_cons_zero, List.set_cons_succ])
 refine wpAnyL_takeP (i := 5) [6, 7, 9, 10, 11, 14, 15, 16, 19] (oi := ?_) (v := undef) ?_ (by kernel_rfl) (by kernel_rfl) (by kernel_rfl) (by kernel_rfl) (fun _ _ _ h => h) (Or.inr ⟨?_, rfl⟩) hHeld ?_
 rotate_left 1
 ·simp only [List.getElem?_toArray, List.getElem?_cons_zero, List.getElem?_cons_succ]; rfl
 ·rfl
 (try simp only [Act.put, List.setIfInBounds_toArray, List.set_cons_zero, List.set_cons_succ])
 refine wpAnyL_takeP (i := 6) [7, 9, 10, 11, 14, 15, 16, 19] (oi := ?_) (v := undef) ?_ (by kernel_rfl) (by kernel_rfl) (by kernel_rfl) (by kernel_rfl) (fun _ _ _ h => h) (Or.inr ⟨?_, rfl⟩) hHeld ?_
 rotate_left 1
 ·simp only [List.getElem?_toArray, List.getElem?_cons_zero, List.getElem?_cons_succ]; rfl
 ·rfl
 (try simp only [Act.put, List.setIfInBounds_toArray, List.set_cons_zero, List.set_cons_succ])
 refine wpAnyL_takeP (i := 7) [9, 10, 11, 14, 15, 16, 19] (oi := ?_) (v := undef) ?_ (by kernel_rfl) (by kernel_rfl) (by kernel_rfl) (by kernel_rfl) (fun _ _ _ h => h) (Or.inr ⟨?_, rfl⟩) hHeld ?_
 rotate_left 1
 ·simp only [List.getElem?_toArray, List.getElem?_cons_zero, List.getElem?_cons_succ]; rfl
 ·rfl
 (try simp only [Act.put, List.setIfInBounds_toArray, List.set_cons_zero, List.set_cons_succ])
 refine wpAnyL_takeP (i := 8) [9, 10, 11, 14, 15, 16, 19] (oi := ?_) (v := undef) ?_ (by kernel_rfl) (by kernel_rfl) (by kernel_rfl) (by kernel_rfl) (fun _ _ _ h => h) (Or.inr ⟨?_, rfl⟩) hHeld ?_
 rotate_left 1
 ·simp only [List.getElem?_toArray, List.getElem?_cons_zero, List.getElem?_cons_succ]; rfl
 ·rfl
 (try simp only [Act.put, List.setIfInBounds_toArray, List.set_cons_zero, List.set_cons_succ])
 refine wpAnyL_takeP (i := 9) [10, 11, 14, 15, 16, 19] (oi := ?_) (v := undef) ?_ (by kernel_rfl) (by kernel_rfl) (by kernel_rfl) (by kernel_rfl) (fun _ _ _ h => h) (Or.inr ⟨?_, rfl⟩) hHeld ?_
 rotate_left 1
 ·simp only [List.getElem?_toArray, List.getElem?_cons_zero, List.getElem?_cons_succ]; rfl
 ·rfl
 (try simp only [Act.put, List.setIfInBounds_toArray, List.set_cons_zero, List.set_cons_succ])
 refine wpAnyL_takeP (i := 10) [11, 14, 15, 16, 19] (oi := ?_) (v := undef) ?_ (by kernel_rfl) (by kernel_rfl) (by kernel_rfl) (by kernel_rfl) (fun _ _ _ h => h) (Or.inr ⟨?_, rfl⟩) hHeld ?_
 rotate_left 1
 ·simp only [List.getElem?_toArray, List.getElem?_cons_zero, List.getElem?_cons_succ]; rfl
 ·rfl
 (try simp only [Act.put, List.setIfInBounds_toArray, List.set_cons_zero, List.set_cons_succ])
 refine wpAnyL_takeP (i := 11) [14, 15, 16, 19] (oi := ?_) (v := undef) ?_ (by kernel_rfl) (by kernel_rfl) (by kernel_rfl) (by kernel_rfl) (fun _ _ _ h => h) (Or.inr ⟨?_, rfl⟩) hHeld ?_
 rotate_left 1
 ·simp only [List.getElem?_toArray, List.getElem?_cons_zero, List.getElem?_cons_succ]; rfl
 ·rfl
 (try simp only [Act.put, List.setIfInBounds_toArray, List.set_cons_zero, List.set_cons_succ])
 refine wpAnyL_takeP (i := 12) [13, 14, 15, 16, 19] (oi := ?_) (v := undef) ?_ (by kernel_rfl) (by kernel_rfl) (by kernel_rfl) (by kernel_rfl) (fun _ _ _ h => h) (Or.inr ⟨?_, rfl⟩) hHeld ?_
 rotate_left 1
 ·simp only [List.getElem?_toArray, List.getElem?_cons_zero, List.getElem?_cons_succ]; rfl
 ·rfl
 (try simp only [Act.put, List.setIfInBounds_toArray, List.set_cons_zero, List.set_cons_succ])
 refine wpAnyL_takeP (i := 13) [14, 15, 16, 19] (oi := ?_) (v := undef) ?_ (by kernel_rfl) (by kernel_rfl) (by kernel_rfl) (by kernel_rfl) (fun _ _ _ h => h) (Or.inr ⟨?_, rfl⟩) hHeld ?_
 rotate_left 1
 ·simp only [List.getElem?_toArray, List.getElem?_cons_zero, List.getElem?_cons_succ]; rfl
 ·rfl
 (try simp only [Act.put, List.setIfInBounds_toArray, List.set_cons_zero, List.set_cons_succ])
 refine wpAnyL_takeP (i := 14) [15, 16, 19] (oi := ?_) (v := undef) ?_ (by kernel_rfl) (by kernel_rfl) (by kernel_rfl) (by kernel_rfl) (fun _ _ _ h => h) (Or.inr ⟨?_, rfl⟩) hHeld ?_
 rotate_left 1
 ·simp only [List.getElem?_toArray, List.getElem?_cons_zero, List.getElem?_cons_succ]; rfl
 ·rfl
 (try simp only [Act.put, List.setIfInBounds_toArray, List.set_cons_zero, List.set_cons_succ])
 refine wpAnyL_takeP (i := 15) [16, 19] (oi := ?_) (v := ?_) ?_ (by kernel_rfl) (by kernel_rfl) (by kernel_rfl) (by kernel_rfl) (fun _ _ _ h => h) (Or.inl ⟨?_, ?_⟩) hHeld ?_
 rotate_left 2
 ·simp only [List.getElem?_toArray, List.getElem?_cons_zero, List.getElem?_cons_succ]; rfl
 ·rfl
 ·intro _ hSw; (try dsimp only at hSw); go_simp <;> with_reducible rfl
 (try simp only [Act.put, List.setIfInBounds_toArray, List.set_cons_zero, List.set_cons_succ])
 refine wpAnyL_one (i := 16) (o := ?_) (by kernel_rfl) ?_ (fun K hK => ?_)
 rotate_left 1
 ·simp only [List.getElem?_toArray, List.getElem?_cons_zero, List.getElem?_cons_succ]; rfl
 clear hHeld
 go_simp
 (go_at_call 48; refine (HTR.out).mono ?_; rintro e w3 ⟨rfl, rfl⟩)
 try go_wp2_with fail
 refine hK.out _ _ ?_ (fun hHeld => ?_)
 ·first | exact k0 | exact k1 _
 clear hK K
 (try simp only [Act.put, List.setIfInBounds_toArray, List.set_cons_zero, List.set_cons_succ])
 refine wpAnyL_takeP (i := 17) [18, 19] (oi := ?_) (v := ?_) ?_ (by kernel_rfl) (by kernel_rfl) (by kernel_rfl) (by kernel_rfl) (fun _ _ _ h => h) (Or.inl ⟨?_, ?_⟩) hHeld ?_
 rotate_left 2
 ·simp only [List.getElem?_toArray, List.getElem?_cons_zero, List.getElem?_cons_succ]; rfl
 ·rfl
 ·intro _ hSw; (try dsimp only at hSw); go_simp <;> with_reducible rfl
 (try simp only [Act.put, List.setIfInBounds_toArray, List.set_cons_zero, List.set_cons_succ])
 refine wpAnyL_one (i := 18) (o := ?_) (by kernel_rfl) ?_ (fun K hK => ?_)
 rotate_left 1
 ·simp only [List.getElem?_toArray, List.getElem?_cons_zero, List.getElem?_cons_succ]; rfl
 clear hHeld
 go_simp
 refine hK.out _ _ ?_ (fun hHeld => ?_)
 ·first | exact k0 | exact k1 _
 clear hK K
 (try simp only [Act.put, List.setIfInBounds_toArray, List.set_cons_zero, List.set_cons_succ])
 refine wpAnyL_last (o := ?_) (by kernel_rfl) ?_ (fun K hK => ?_)
 rotate_left 1
 ·simp only [List.getElem?_toArray, List.getElem?_cons_zero, List.getElem?_cons_succ]; rfl
 clear hHeld
 go_simp
 (go_at_call 45; refine (HP.out).mono ?_; rintro e w4 ⟨rfl, gs', H3⟩)
 try go_wp2_with fail
 refine hK.out _ _ ?_
 clear hK K
 (try simp only [Act.put, List.setIfInBounds_toArray, List.set_cons_zero, List.set_cons_succ])
 refine wpAnyL_done (by kernel_rfl) ?_ _
 refine NoPanic.normal ?_
 go_wp2_with fail
 go_ret
 exact ⟨rfl, _, H3⟩

set_option maxRecDepth 100000 in
set_option maxHeartbeats 4000000 in
theorem mtouch_27 {xa xb xn : Int} {r : Nat} {oj : Ob} (h : PlS B w W U R mb ib p S X fb c below.length cb ⟨27, xa, xb, xn⟩) (hf : S.frs = f :: below) (hn : f.stk.length ≤ 1000) (hl : 1 ≤ f.stk.length) (hr : (tp f.stk 0).n = r) (hr2 : r < S.objs.length) (ho : S.objs.getD r default = oj) :
  Calls Tryd.prog 50 #[.pointer (some ⟨mb, 0, none⟩), .agg #[.int .i64 27, .int .i64 xa, .int .i64 xb, .int .i64 xn], .func (.func 44) #[] #[.pointer (some ⟨cb, 0, none⟩)], .func (.func 45) #[] #[.pointer (some ⟨cb, 0, none⟩)]] W fun e W' => e = .returned (.int .i64 0) ∧ ∃ X', Hid (PlS B w W' U R mb ib p { S with frs := { f with stk := cutV f.stk 1 ++ [vi (if oj.cls = xa then 1 else 0)] } :: below } X' fb c below.length cb ⟨27, xa, xb, xn⟩) := by
 have H1 := Lib.hid (h.keep ((Upd.refl [] W).alloc (.cells #[.int .i64 27, .int .i64 xa, .int .i64 xb, .int .i64 xn] 29)))
 have hA := heap_alloc_new W (.cells #[.int .i64 27, .int .i64 xa, .int .i64 xb, .int .i64 xn] 29)
 have HF := Lib.hid hf
 have hvn := val_n
 obtain ⟨qr, hqv⟩ : ∃ qr, tp f.stk 0 = ⟨qr, r⟩ := ⟨(tp f.stk 0).ref, by rw [← hr]⟩
 have HQV := Lib.hid hqv
 clear h hf hr hqv
 have HOJ := Lib.hid ho
 clear ho
 obtain ⟨iv, hiv⟩ : ∃ iv, (if oj.cls = xa then (1 : Int) else 0) = iv := ⟨_, rfl⟩
 rw [hiv]
 have HIV := Lib.hid hiv
 clear hiv
 go_enter Tryd.func50, Tryd.ntmps50
 go_upto_region 2 with fail
 generalize W.alloc (.cells #[.int .i64 27, .int .i64 xa, .int .i64 xb, .int .i64 xn] 29) = w1 at H1 hA ⊢
 generalize W.heap.size = tb at hA ⊢
 have HA := Lib.hid hA
 have t0 : w1.cell? ⟨tb, 0, none⟩ = some (.int .i64 27) := by rw [cell_of hA]; rfl
 clear hA
 go_wp2_with fail
 refine (H1.out.top HF.out rfl 0 (by omega)).mono ?_
 rintro e w2 ⟨he, H2, hu2⟩
 rw [HQV.out] at he
 subst he
 have HA2 := Lib.hid (hu2.out.heap HA.out (by simp))
 have s0 : w2.cell? ⟨tb, 0, none⟩ = some (.int .i64 27) := by rw [cell_of HA2.out]; rfl
 have s1 : w2.cell? ⟨tb, 1, none⟩ = some (.int .i64 xa) := by rw [cell_of HA2.out]; rfl
 have s2 : w2.cell? ⟨tb, 2, none⟩ = some (.int .i64 xb) := by rw [cell_of HA2.out]; rfl
 clear hu2 t0 H1
 obtain ⟨ob, oc, vb, vc, o0, o1, o2, hos⟩ := H2.out.obj HOJ.out hr2
 have hrr : (r : Int) < (S.objs.length : Int) := by omega
 have hr0 : (0 : Int) ≤ (r : Int) := by omega
 have hrn : ¬ ((r : Int) = -1) := by omega
 have HOS := Lib.hid hos
 clear hos
 have HP := Lib.hid ((H2.out.keep ((Upd.refl [] w2).drew)).put1 HF.out rfl 1 hl hn (vi iv))
 have HTR : Hid (∀ b, decide (oj.cls = xa) = b → Calls Tryd.prog 48 #[.bool b] w2.drew fun e w' => e = .returned (.int .i64 iv) ∧ w2.drew = w') := fun b hb => by
  have h1 := mtruth_any b w2.drew
  have h2 : (if b = true then (1 : Int) else 0) = iv := by rw [← HIV.out, ← hb]; simp
  rw [h2] at h1
  exact h1
 clear o2 s0 s2
 have k0 : w2.cell? ⟨tb, 1, none⟩ = some (.int .i64 xa) ∧ w2.cell? ⟨mb, 6, none⟩ = some (.slice (some ⟨ob, 0, none⟩) S.objs.length oc) ∧ w2.cell? ⟨ob, r * 2, none⟩ = some (.int .i64 oj.cls) := ⟨s1, o0, o1⟩
 have k1 : ∀ o, (w2.drew.alloc o).cell? ⟨tb, 1, none⟩ = some (.int .i64 xa) ∧ (w2.drew.alloc o).cell? ⟨mb, 6, none⟩ = some (.slice (some ⟨ob, 0, none⟩) S.objs.length oc) ∧ (w2.drew.alloc o).cell? ⟨ob, r * 2, none⟩ = some (.int .i64 oj.cls) := fun o => by
  have hx := ((Upd.refl [] w2).drew).alloc o
  exact ⟨hx.cell s1 (by simp), hx.cell o0 (by simp), hx.cell o1 (by simp)⟩
 have s0 : w2.cell? ⟨tb, 0, none⟩ = some (.int .i64 27) := by rw [cell_of HA2.out]; rfl
 go_upto_region 10 with fail
 clear s0 s1 o0 o1
 refine wp_region_noPanic ?_
 refine wp_region_L (S := fun w' => w'.cell? ⟨tb, 1, none⟩ = some (.int .i64 xa) ∧ w'.cell? ⟨mb, 6, none⟩ = some (.slice (some ⟨ob, 0, none⟩) S.objs.length oc) ∧ w'.cell? ⟨ob, r * 2, none⟩ = some (.int .i64 oj.cls)) 19 (by kernel_rfl) ?_ (fun hHeld => ?_)
 ·first | exact k0 | exact k1 _
 refine Nx.start [(0, [19]), (1, [2, 3, 16, 19]), (2, [3, 16, 19]), (3, [16, 19]), (4, [5, 6, 7, 9, 10, 11, 14, 15, 16, 19]), (5, [6, 7, 9, 10, 11, 14, 15, 16, 19]), (6, [7, 9, 10, 11, 14, 15, 16, 19]), (7, [9, 10, 11, 14, 15, 16, 19]), (8, [9, 10, 11, 14, 15, 16, 19]), (9, [10, 11, 14, 15, 16, 19]), (10, [11, 14, 15, 16, 19]), (11, [14, 15, 16, 19]), (12, [13, 14, 15, 16, 19]), (13, [14, 15, 16, 19]), (14, [15, 16, 19]), (15, [16, 19])] ?_
 iterate 16
  refine Nx.p (oi := ?_) (v := ?_) ?_ (by kernel_rfl) (fun _ _ _ h => h) ?_ ?_ hHeld ?_
  rotate_left 2
  ·simp only [List.getElem?_toArray, List.getElem?_cons_zero, List.getElem?_cons_succ]; rfl
  ·rfl
  ·intro _ hSw; (try dsimp only at hSw); go_simp <;> with_reducible rfl
  (try simp only [Act.put, List.setIfInBounds_toArray, List.set_cons_zero, List.set_cons_succ])
 refine Nx.stop ?_
 refine wpAnyL_one (i := 16) (o := ?_) (by kernel_rfl) ?_ (fun K hK => ?_)
 rotate_left 1
 ·simp only [List.getElem?_toArray, List.getElem?_cons_zero, List.getElem?_cons_succ]; rfl
 clear hHeld
 go_simp
 (go_at_call 48; refine (HTR.out _ (by first | rfl | simp)).mono ?_; rintro e w3 ⟨rfl, rfl⟩)
 try go_wp2_with fail
 refine hK.out _ _ ?_ (fun hHeld => ?_)
 ·first | exact k0 | exact k1 _
 clear hK K
 (try simp only [Act.put, List.setIfInBounds_toArray, List.set_cons_zero, List.set_cons_succ])
 refine wpAnyL_takeP (i := 17) [18, 19] (oi := ?_) (v := ?_) ?_ (by kernel_rfl) (by kernel_rfl) (by kernel_rfl) (by kernel_rfl) (fun _ _ _ h => h) (Or.inl ⟨?_, ?_⟩) hHeld ?_
 rotate_left 2
 ·simp only [List.getElem?_toArray, List.getElem?_cons_zero, List.getElem?_cons_succ]; rfl
 ·rfl
 ·intro _ hSw; (try dsimp only at hSw); go_simp <;> with_reducible rfl
 (try simp only [Act.put, List.setIfInBounds_toArray, List.set_cons_zero, List.set_cons_succ])
 refine wpAnyL_one (i := 18) (o := ?_) (by kernel_rfl) ?_ (fun K hK => ?_)
 rotate_left 1
 ·simp only [List.getElem?_toArray, List.getElem?_cons_zero, List.getElem?_cons_succ]; rfl
 clear hHeld
 go_simp
 refine hK.out _ _ ?_ (fun hHeld => ?_)
 ·first | exact k0 | exact k1 _
 clear hK K
 (try simp only [Act.put, List.setIfInBounds_toArray, List.set_cons_zero, List.set_cons_succ])
 refine wpAnyL_last (o := ?_) (by kernel_rfl) ?_ (fun K hK => ?_)
 rotate_left 1
 ·simp only [List.getElem?_toArray, List.getElem?_cons_zero, List.getElem?_cons_succ]; rfl
 clear hHeld
 go_simp
 (go_at_call 45; refine (HP.out).mono ?_; rintro e w4 ⟨rfl, gs', H3⟩)
 try go_wp2_with fail
 refine hK.out _ _ ?_
 clear hK K
 (try simp only [Act.put, List.setIfInBounds_toArray, List.set_cons_zero, List.set_cons_succ])
 refine wpAnyL_done (by kernel_rfl) ?_ _
 refine NoPanic.normal ?_
 go_wp2_with fail
 go_ret
 exact ⟨rfl, _, H3⟩

set_option maxRecDepth 100000 in
set_option maxHeartbeats 4000000 in
theorem mtouch_31c {xa xb xn : Int} {r : Nat} {oj : Ob} (h : PlS B w W U R mb ib p S X fb c below.length cb ⟨31, xa, xb, xn⟩) (hf : S.frs = f :: below) (hl : 1 ≤ f.stk.length) (hr : (tp f.stk 0).n = r) (hr2 : r < S.objs.length) (ho : S.objs.getD r default = oj) (hc : 0 ≤ oj.cls) :
  Calls Tryd.prog 50 #[.pointer (some ⟨mb, 0, none⟩), .agg #[.int .i64 31, .int .i64 xa, .int .i64 xb, .int .i64 xn], .func (.func 44) #[] #[.pointer (some ⟨cb, 0, none⟩)], .func (.func 45) #[] #[.pointer (some ⟨cb, 0, none⟩)]] W fun e W' => e = .returned (.int .i64 2) ∧ ∃ X', Hid (PlS B w W' U R mb ib p S X' fb c below.length cb ⟨31, xa, xb, xn⟩) := by
 have H1 := Lib.hid (h.keep ((Upd.refl [] W).alloc (.cells #[.int .i64 31, .int .i64 xa, .int .i64 xb, .int .i64 xn] 29)))
 have hA := heap_alloc_new W (.cells #[.int .i64 31, .int .i64 xa, .int .i64 xb, .int .i64 xn] 29)
 have HF := Lib.hid hf
 have hvn := val_n
 obtain ⟨qr, hqv⟩ : ∃ qr, tp f.stk 0 = ⟨qr, r⟩ := ⟨(tp f.stk 0).ref, by rw [← hr]⟩
 have HQV := Lib.hid hqv
 clear h hf hr hqv
 have HOJ := Lib.hid ho
 clear ho
 have HC := Lib.hid hc
 clear hc
 go_enter Tryd.func50, Tryd.ntmps50
 go_upto_region 2 with fail
 generalize W.alloc (.cells #[.int .i64 31, .int .i64 xa, .int .i64 xb, .int .i64 xn] 29) = w1 at H1 hA ⊢
 generalize W.heap.size = tb at hA ⊢
 have HA := Lib.hid hA
 have t0 : w1.cell? ⟨tb, 0, none⟩ = some (.int .i64 31) := by rw [cell_of hA]; rfl
 clear hA
 go_wp2_with fail
 refine (H1.out.top HF.out rfl 0 (by omega)).mono ?_
 rintro e w2 ⟨he, H2, hu2⟩
 rw [HQV.out] at he
 subst he
 have HA2 := Lib.hid (hu2.out.heap HA.out (by simp))
 have s0 : w2.cell? ⟨tb, 0, none⟩ = some (.int .i64 31) := by rw [cell_of HA2.out]; rfl
 have s1 : w2.cell? ⟨tb, 1, none⟩ = some (.int .i64 xa) := by rw [cell_of HA2.out]; rfl
 have s2 : w2.cell? ⟨tb, 2, none⟩ = some (.int .i64 xb) := by rw [cell_of HA2.out]; rfl
 clear hu2 t0 H1
 obtain ⟨ob, oc, vb, vc, o0, o1, o2, hos⟩ := H2.out.obj HOJ.out hr2
 have hrr : (r : Int) < (S.objs.length : Int) := by omega
 have hr0 : (0 : Int) ≤ (r : Int) := by omega
 have hrn : ¬ ((r : Int) = -1) := by omega
 have HOS := Lib.hid hos
 clear hos
 go_upto_region 15 with fail
 have H3 := Lib.hid (H2.out.keep ((Upd.refl [] w2).alloc (.cells #[.int .i64 oj.cls, .slice vb oj.vals.length vc] 120)))
 have HA3 := Lib.hid (((Upd.refl [] w2).alloc (.cells #[.int .i64 oj.cls, .slice vb oj.vals.length vc] 120)).heap HA2.out (by simp))
 have HO3 := Lib.hid (heap_alloc_new w2 (.cells #[.int .i64 oj.cls, .slice vb oj.vals.length vc] 120))
 clear o0 o1 o2 s0 s1 s2
 generalize w2.alloc (.cells #[.int .i64 oj.cls, .slice vb oj.vals.length vc] 120) = w3 at H3 HA3 HO3 ⊢
 generalize w2.heap.size = sb at HO3 ⊢
 have s0 : w3.cell? ⟨tb, 0, none⟩ = some (.int .i64 31) := by rw [cell_of HA3.out]; rfl
 have s1 : w3.cell? ⟨tb, 1, none⟩ = some (.int .i64 xa) := by rw [cell_of HA3.out]; rfl
 have s2 : w3.cell? ⟨tb, 2, none⟩ = some (.int .i64 xb) := by rw [cell_of HA3.out]; rfl
 have b0 : w3.cell? ⟨sb, 0, none⟩ = some (.int .i64 oj.cls) := by rw [cell_of HO3.out]; rfl
 have b1 : w3.cell? ⟨sb, 1, none⟩ = some (.slice vb oj.vals.length vc) := by rw [cell_of HO3.out]; rfl
 clear H2 HA2
 have hc := HC.out
 go_wp2_with fail
 go_ret
 exact ⟨rfl, _, H3⟩

set_option maxRecDepth 100000 in
set_option maxHeartbeats 4000000 in
theorem mtouch_31 {xa xb xn : Int} {r : Nat} {oj : Ob} (h : PlS B w W U R mb ib p S X fb c below.length cb ⟨31, xa, xb, xn⟩) (hf : S.frs = f :: below) (hn : f.stk.length ≤ 1000) (hl : 1 ≤ f.stk.length) (hr : (tp f.stk 0).n = r) (hr2 : r < S.objs.length) (ho : S.objs.getD r default = oj) (hc : ¬ 0 ≤ oj.cls) :
  Calls Tryd.prog 50 #[.pointer (some ⟨mb, 0, none⟩), .agg #[.int .i64 31, .int .i64 xa, .int .i64 xb, .int .i64 xn], .func (.func 44) #[] #[.pointer (some ⟨cb, 0, none⟩)], .func (.func 45) #[] #[.pointer (some ⟨cb, 0, none⟩)]] W fun e W' => e = .returned (.int .i64 0) ∧ ∃ X', Hid (PlS B w W' U R mb ib p { S with frs := { f with stk := cutV f.stk 1 ++ [vi oj.vals.length] } :: below } X' fb c below.length cb ⟨31, xa, xb, xn⟩) := by
 have H1 := Lib.hid (h.keep ((Upd.refl [] W).alloc (.cells #[.int .i64 31, .int .i64 xa, .int .i64 xb, .int .i64 xn] 29)))
 have hA := heap_alloc_new W (.cells #[.int .i64 31, .int .i64 xa, .int .i64 xb, .int .i64 xn] 29)
 have HF := Lib.hid hf
 have hvn := val_n
 obtain ⟨qr, hqv⟩ : ∃ qr, tp f.stk 0 = ⟨qr, r⟩ := ⟨(tp f.stk 0).ref, by rw [← hr]⟩
 have HQV := Lib.hid hqv
 clear h hf hr hqv
 have HOJ := Lib.hid ho
 clear ho
 have HC := Lib.hid hc
 clear hc
 go_enter Tryd.func50, Tryd.ntmps50
 go_upto_region 2 with fail
 generalize W.alloc (.cells #[.int .i64 31, .int .i64 xa, .int .i64 xb, .int .i64 xn] 29) = w1 at H1 hA ⊢
 generalize W.heap.size = tb at hA ⊢
 have HA := Lib.hid hA
 have t0 : w1.cell? ⟨tb, 0, none⟩ = some (.int .i64 31) := by rw [cell_of hA]; rfl
 clear hA
 go_wp2_with fail
 refine (H1.out.top HF.out rfl 0 (by omega)).mono ?_
 rintro e w2 ⟨he, H2, hu2⟩
 rw [HQV.out] at he
 subst he
 have HA2 := Lib.hid (hu2.out.heap HA.out (by simp))
 have s0 : w2.cell? ⟨tb, 0, none⟩ = some (.int .i64 31) := by rw [cell_of HA2.out]; rfl
 have s1 : w2.cell? ⟨tb, 1, none⟩ = some (.int .i64 xa) := by rw [cell_of HA2.out]; rfl
 have s2 : w2.cell? ⟨tb, 2, none⟩ = some (.int .i64 xb) := by rw [cell_of HA2.out]; rfl
 clear hu2 t0 H1
 obtain ⟨ob, oc, vb, vc, o0, o1, o2, hos⟩ := H2.out.obj HOJ.out hr2
 have hrr : (r : Int) < (S.objs.length : Int) := by omega
 have hr0 : (0 : Int) ≤ (r : Int) := by omega
 have hrn : ¬ ((r : Int) = -1) := by omega
 have HOS := Lib.hid hos
 clear hos
 go_upto_region 15 with fail
 have H3 := Lib.hid (H2.out.keep ((Upd.refl [] w2).alloc (.cells #[.int .i64 oj.cls, .slice vb oj.vals.length vc] 120)))
 have HA3 := Lib.hid (((Upd.refl [] w2).alloc (.cells #[.int .i64 oj.cls, .slice vb oj.vals.length vc] 120)).heap HA2.out (by simp))
 have HO3 := Lib.hid (heap_alloc_new w2 (.cells #[.int .i64 oj.cls, .slice vb oj.vals.length vc] 120))
 clear o0 o1 o2 s0 s1 s2
 generalize w2.alloc (.cells #[.int .i64 oj.cls, .slice vb oj.vals.length vc] 120) = w3 at H3 HA3 HO3 ⊢
 generalize w2.heap.size = sb at HO3 ⊢
 have s0 : w3.cell? ⟨tb, 0, none⟩ = some (.int .i64 31) := by rw [cell_of HA3.out]; rfl
 have s1 : w3.cell? ⟨tb, 1, none⟩ = some (.int .i64 xa) := by rw [cell_of HA3.out]; rfl
 have s2 : w3.cell? ⟨tb, 2, none⟩ = some (.int .i64 xb) := by rw [cell_of HA3.out]; rfl
 have b0 : w3.cell? ⟨sb, 0, none⟩ = some (.int .i64 oj.cls) := by rw [cell_of HO3.out]; rfl
 have b1 : w3.cell? ⟨sb, 1, none⟩ = some (.slice vb oj.vals.length vc) := by rw [cell_of HO3.out]; rfl
 clear H2 HA2
 have hc := HC.out
 have HP := Lib.hid (H3.out.put1 HF.out rfl 1 hl hn (vi oj.vals.length))
 go_wp2_with fail
 refine HP.out.mono ?_
 rintro e w4 ⟨rfl, gs', H4⟩
 go_wp2_with fail
 go_ret
 exact ⟨rfl, _, H4⟩

set_option maxRecDepth 100000 in
set_option maxHeartbeats 4000000 in
theorem mtouch_25c {xa xb xn : Int} {r : Nat} {oj : Ob} (h : PlS B w W U R mb ib p S X fb c below.length cb ⟨25, xa, xb, xn⟩) (hf : S.frs = f :: below) (hl : 1 ≤ f.stk.length) (hr : (tp f.stk 0).n = r) (hr2 : r < S.objs.length) (ho : S.objs.getD r default = oj) (hc : ¬ oj.cls = xa) :
  Calls Tryd.prog 50 #[.pointer (some ⟨mb, 0, none⟩), .agg #[.int .i64 25, .int .i64 xa, .int .i64 xb, .int .i64 xn], .func (.func 44) #[] #[.pointer (some ⟨cb, 0, none⟩)], .func (.func 45) #[] #[.pointer (some ⟨cb, 0, none⟩)]] W fun e W' => e = .returned (.int .i64 2) ∧ ∃ X', Hid (PlS B w W' U R mb ib p S X' fb c below.length cb ⟨25, xa, xb, xn⟩) := by
 have H1 := Lib.hid (h.keep ((Upd.refl [] W).alloc (.cells #[.int .i64 25, .int .i64 xa, .int .i64 xb, .int .i64 xn] 29)))
 have hA := heap_alloc_new W (.cells #[.int .i64 25, .int .i64 xa, .int .i64 xb, .int .i64 xn] 29)
 have HF := Lib.hid hf
 have hvn := val_n
 obtain ⟨qr, hqv⟩ : ∃ qr, tp f.stk 0 = ⟨qr, r⟩ := ⟨(tp f.stk 0).ref, by rw [← hr]⟩
 have HQV := Lib.hid hqv
 clear h hf hr hqv
 have HOJ := Lib.hid ho
 clear ho
 have HC := Lib.hid hc
 clear hc
 go_enter Tryd.func50, Tryd.ntmps50
 go_upto_region 2 with fail
 generalize W.alloc (.cells #[.int .i64 25, .int .i64 xa, .int .i64 xb, .int .i64 xn] 29) = w1 at H1 hA ⊢
 generalize W.heap.size = tb at hA ⊢
 have HA := Lib.hid hA
 have t0 : w1.cell? ⟨tb, 0, none⟩ = some (.int .i64 25) := by rw [cell_of hA]; rfl
 clear hA
 go_wp2_with fail
 refine (H1.out.top HF.out rfl 0 (by omega)).mono ?_
 rintro e w2 ⟨he, H2, hu2⟩
 rw [HQV.out] at he
 subst he
 have HA2 := Lib.hid (hu2.out.heap HA.out (by simp))
 have s0 : w2.cell? ⟨tb, 0, none⟩ = some (.int .i64 25) := by rw [cell_of HA2.out]; rfl
 have s1 : w2.cell? ⟨tb, 1, none⟩ = some (.int .i64 xa) := by rw [cell_of HA2.out]; rfl
 have s2 : w2.cell? ⟨tb, 2, none⟩ = some (.int .i64 xb) := by rw [cell_of HA2.out]; rfl
 clear hu2 t0 H1
 obtain ⟨ob, oc, vb, vc, o0, o1, o2, hos⟩ := H2.out.obj HOJ.out hr2
 have hrr : (r : Int) < (S.objs.length : Int) := by omega
 have hr0 : (0 : Int) ≤ (r : Int) := by omega
 have hrn : ¬ ((r : Int) = -1) := by omega
 have HOS := Lib.hid hos
 clear hos
 go_upto_region 15 with fail
 have H3 := Lib.hid (H2.out.keep ((Upd.refl [] w2).alloc (.cells #[.int .i64 oj.cls, .slice vb oj.vals.length vc] 120)))
 have HA3 := Lib.hid (((Upd.refl [] w2).alloc (.cells #[.int .i64 oj.cls, .slice vb oj.vals.length vc] 120)).heap HA2.out (by simp))
 have HO3 := Lib.hid (heap_alloc_new w2 (.cells #[.int .i64 oj.cls, .slice vb oj.vals.length vc] 120))
 clear o0 o1 o2 s0 s1 s2
 generalize w2.alloc (.cells #[.int .i64 oj.cls, .slice vb oj.vals.length vc] 120) = w3 at H3 HA3 HO3 ⊢
 generalize w2.heap.size = sb at HO3 ⊢
 have s0 : w3.cell? ⟨tb, 0, none⟩ = some (.int .i64 25) := by rw [cell_of HA3.out]; rfl
 have s1 : w3.cell? ⟨tb, 1, none⟩ = some (.int .i64 xa) := by rw [cell_of HA3.out]; rfl
 have s2 : w3.cell? ⟨tb, 2, none⟩ = some (.int .i64 xb) := by rw [cell_of HA3.out]; rfl
 have b0 : w3.cell? ⟨sb, 0, none⟩ = some (.int .i64 oj.cls) := by rw [cell_of HO3.out]; rfl
 have b1 : w3.cell? ⟨sb, 1, none⟩ = some (.slice vb oj.vals.length vc) := by rw [cell_of HO3.out]; rfl
 clear H2 HA2
 have hc := HC.out
 go_wp2_with fail
 go_ret
 exact ⟨rfl, _, H3⟩

set_option maxRecDepth 100000 in
set_option maxHeartbeats 4000000 in
theorem mtouch_25 {xa xn : Int} {r j : Nat} {oj : Ob} (h : PlS B w W U R mb ib p S X fb c below.length cb ⟨25, xa, j, xn⟩) (hf : S.frs = f :: below) (hn : f.stk.length ≤ 1000) (hl : 1 ≤ f.stk.length) (hr : (tp f.stk 0).n = r) (hr2 : r < S.objs.length) (ho : S.objs.getD r default = oj) (hc : oj.cls = xa) (hj : j < oj.vals.length) :
  Calls Tryd.prog 50 #[.pointer (some ⟨mb, 0, none⟩), .agg #[.int .i64 25, .int .i64 xa, .int .i64 j, .int .i64 xn], .func (.func 44) #[] #[.pointer (some ⟨cb, 0, none⟩)], .func (.func 45) #[] #[.pointer (some ⟨cb, 0, none⟩)]] W fun e W' => e = .returned (.int .i64 0) ∧ ∃ X', Hid (PlS B w W' U R mb ib p { S with frs := { f with stk := cutV f.stk 1 ++ [oj.vals.getD j default] } :: below } X' fb c below.length cb ⟨25, xa, j, xn⟩) := by
 have H1 := Lib.hid (h.keep ((Upd.refl [] W).alloc (.cells #[.int .i64 25, .int .i64 xa, .int .i64 j, .int .i64 xn] 29)))
 have hA := heap_alloc_new W (.cells #[.int .i64 25, .int .i64 xa, .int .i64 j, .int .i64 xn] 29)
 have HF := Lib.hid hf
 have hvn := val_n
 obtain ⟨qr, hqv⟩ : ∃ qr, tp f.stk 0 = ⟨qr, r⟩ := ⟨(tp f.stk 0).ref, by rw [← hr]⟩
 have HQV := Lib.hid hqv
 clear h hf hr hqv
 have HOJ := Lib.hid ho
 clear ho
 have HC := Lib.hid hc
 clear hc
 obtain ⟨vr, vn, hv⟩ : ∃ vr vn, oj.vals.getD j default = ⟨vr, vn⟩ := ⟨_, _, rfl⟩
 rw [hv]
 have HV := Lib.hid hv
 clear hv
 go_enter Tryd.func50, Tryd.ntmps50
 go_upto_region 2 with fail
 generalize W.alloc (.cells #[.int .i64 25, .int .i64 xa, .int .i64 j, .int .i64 xn] 29) = w1 at H1 hA ⊢
 generalize W.heap.size = tb at hA ⊢
 have HA := Lib.hid hA
 have t0 : w1.cell? ⟨tb, 0, none⟩ = some (.int .i64 25) := by rw [cell_of hA]; rfl
 clear hA
 go_wp2_with fail
 refine (H1.out.top HF.out rfl 0 (by omega)).mono ?_
 rintro e w2 ⟨he, H2, hu2⟩
 rw [HQV.out] at he
 subst he
 have HA2 := Lib.hid (hu2.out.heap HA.out (by simp))
 have s0 : w2.cell? ⟨tb, 0, none⟩ = some (.int .i64 25) := by rw [cell_of HA2.out]; rfl
 have s1 : w2.cell? ⟨tb, 1, none⟩ = some (.int .i64 xa) := by rw [cell_of HA2.out]; rfl
 have s2 : w2.cell? ⟨tb, 2, none⟩ = some (.int .i64 j) := by rw [cell_of HA2.out]; rfl
 clear hu2 t0 H1
 obtain ⟨ob, oc, vb, vc, o0, o1, o2, hos⟩ := H2.out.obj HOJ.out hr2
 have hrr : (r : Int) < (S.objs.length : Int) := by omega
 have hr0 : (0 : Int) ≤ (r : Int) := by omega
 have hrn : ¬ ((r : Int) = -1) := by omega
 have HOS := Lib.hid hos
 clear hos
 go_upto_region 15 with fail
 have H3 := Lib.hid (H2.out.keep ((Upd.refl [] w2).alloc (.cells #[.int .i64 oj.cls, .slice vb oj.vals.length vc] 120)))
 have HA3 := Lib.hid (((Upd.refl [] w2).alloc (.cells #[.int .i64 oj.cls, .slice vb oj.vals.length vc] 120)).heap HA2.out (by simp))
 have HO3 := Lib.hid (heap_alloc_new w2 (.cells #[.int .i64 oj.cls, .slice vb oj.vals.length vc] 120))
 clear o0 o1 o2 s0 s1 s2
 generalize w2.alloc (.cells #[.int .i64 oj.cls, .slice vb oj.vals.length vc] 120) = w3 at H3 HA3 HO3 ⊢
 generalize w2.heap.size = sb at HO3 ⊢
 have s0 : w3.cell? ⟨tb, 0, none⟩ = some (.int .i64 25) := by rw [cell_of HA3.out]; rfl
 have s1 : w3.cell? ⟨tb, 1, none⟩ = some (.int .i64 xa) := by rw [cell_of HA3.out]; rfl
 have s2 : w3.cell? ⟨tb, 2, none⟩ = some (.int .i64 j) := by rw [cell_of HA3.out]; rfl
 have b0 : w3.cell? ⟨sb, 0, none⟩ = some (.int .i64 oj.cls) := by rw [cell_of HO3.out]; rfl
 have b1 : w3.cell? ⟨sb, 1, none⟩ = some (.slice vb oj.vals.length vc) := by rw [cell_of HO3.out]; rfl
 clear H2 HA2
 have hc := HC.out
 obtain ⟨g, vc', hos', ⟨g0, g1⟩, gz, _⟩ := H3.out.val HOJ.out hr2 hj
 rw [HOS.out] at hos'
 injection hos' with e1 _ e3
 subst e1 e3
 have hjj : (j : Int) < (oj.vals.length : Int) := by omega
 have hj0 : (0 : Int) ≤ (j : Int) := by omega
 rw [HV.out] at g0 g1
 have HP := Lib.hid (H3.out.put1 HF.out rfl 1 hl hn ⟨vr, vn⟩)
 go_wp2_with fail
 refine HP.out.mono ?_
 rintro e w4 ⟨rfl, gs', H4⟩
 go_wp2_with fail
 go_ret
 exact ⟨rfl, _, H4⟩

end
end Go.Proofs.YtojobkhidlfeoaaDoor

/-! model: Machine.touch: a field, an element stored; an element's value. -/
namespace Go.Proofs.YtojobkhidlfeoaaDoor
open Go.RowKit

section
variable {B : Nat} {w W : World} {U R : List Nat} {mb ib : Nat} {p : Prg} {S : Mc} {X : MX} {f : Fm} {below : List Fm} {fb c cb : Nat}

set_option maxRecDepth 100000 in
set_option maxHeartbeats 4000000 in
theorem mtouch_26c {xa xb xn : Int} {r : Nat} {oj : Ob} (h : PlS B w W U R mb ib p S X fb c below.length cb ⟨26, xa, xb, xn⟩) (hf : S.frs = f :: below) (hl : 2 ≤ f.stk.length) (hr : (tp f.stk 1).n = r) (hr2 : r < S.objs.length) (ho : S.objs.getD r default = oj) (hc : ¬ oj.cls = xa) :
  Calls Tryd.prog 50 #[.pointer (some ⟨mb, 0, none⟩), .agg #[.int .i64 26, .int .i64 xa, .int .i64 xb, .int .i64 xn], .func (.func 44) #[] #[.pointer (some ⟨cb, 0, none⟩)], .func (.func 45) #[] #[.pointer (some ⟨cb, 0, none⟩)]] W fun e W' => e = .returned (.int .i64 2) ∧ ∃ X', Hid (PlS B w W' U R mb ib p S X' fb c below.length cb ⟨26, xa, xb, xn⟩) := by
 have H1 := Lib.hid (h.keep ((Upd.refl [] W).alloc (.cells #[.int .i64 26, .int .i64 xa, .int .i64 xb, .int .i64 xn] 29)))
 have hA := heap_alloc_new W (.cells #[.int .i64 26, .int .i64 xa, .int .i64 xb, .int .i64 xn] 29)
 have HF := Lib.hid hf
 have hvn := val_n
 obtain ⟨qr, hqv⟩ : ∃ qr, tp f.stk 1 = ⟨qr, r⟩ := ⟨(tp f.stk 1).ref, by rw [← hr]⟩
 have HQV := Lib.hid hqv
 clear h hf hr hqv
 have HOJ := Lib.hid ho
 clear ho
 have HC := Lib.hid hc
 clear hc
 go_enter Tryd.func50, Tryd.ntmps50
 go_upto_region 2 with fail
 generalize W.alloc (.cells #[.int .i64 26, .int .i64 xa, .int .i64 xb, .int .i64 xn] 29) = w1 at H1 hA ⊢
 generalize W.heap.size = tb at hA ⊢
 have HA := Lib.hid hA
 have t0 : w1.cell? ⟨tb, 0, none⟩ = some (.int .i64 26) := by rw [cell_of hA]; rfl
 clear hA
 go_wp2_with fail
 refine (H1.out.top HF.out rfl 1 (by omega)).mono ?_
 rintro e w2 ⟨he, H2, hu2⟩
 rw [HQV.out] at he
 subst he
 have HA2 := Lib.hid (hu2.out.heap HA.out (by simp))
 have s0 : w2.cell? ⟨tb, 0, none⟩ = some (.int .i64 26) := by rw [cell_of HA2.out]; rfl
 have s1 : w2.cell? ⟨tb, 1, none⟩ = some (.int .i64 xa) := by rw [cell_of HA2.out]; rfl
 have s2 : w2.cell? ⟨tb, 2, none⟩ = some (.int .i64 xb) := by rw [cell_of HA2.out]; rfl
 clear hu2 t0 H1
 obtain ⟨ob, oc, vb, vc, o0, o1, o2, hos⟩ := H2.out.obj HOJ.out hr2
 have hrr : (r : Int) < (S.objs.length : Int) := by omega
 have hr0 : (0 : Int) ≤ (r : Int) := by omega
 have hrn : ¬ ((r : Int) = -1) := by omega
 have HOS := Lib.hid hos
 clear hos
 go_upto_region 15 with fail
 have H3 := Lib.hid (H2.out.keep ((Upd.refl [] w2).alloc (.cells #[.int .i64 oj.cls, .slice vb oj.vals.length vc] 120)))
 have HA3 := Lib.hid (((Upd.refl [] w2).alloc (.cells #[.int .i64 oj.cls, .slice vb oj.vals.length vc] 120)).heap HA2.out (by simp))
 have HO3 := Lib.hid (heap_alloc_new w2 (.cells #[.int .i64 oj.cls, .slice vb oj.vals.length vc] 120))
 clear o0 o1 o2 s0 s1 s2
 generalize w2.alloc (.cells #[.int .i64 oj.cls, .slice vb oj.vals.length vc] 120) = w3 at H3 HA3 HO3 ⊢
 generalize w2.heap.size = sb at HO3 ⊢
 have s0 : w3.cell? ⟨tb, 0, none⟩ = some (.int .i64 26) := by rw [cell_of HA3.out]; rfl
 have s1 : w3.cell? ⟨tb, 1, none⟩ = some (.int .i64 xa) := by rw [cell_of HA3.out]; rfl
 have s2 : w3.cell? ⟨tb, 2, none⟩ = some (.int .i64 xb) := by rw [cell_of HA3.out]; rfl
 have b0 : w3.cell? ⟨sb, 0, none⟩ = some (.int .i64 oj.cls) := by rw [cell_of HO3.out]; rfl
 have b1 : w3.cell? ⟨sb, 1, none⟩ = some (.slice vb oj.vals.length vc) := by rw [cell_of HO3.out]; rfl
 clear H2 HA2
 have hc := HC.out
 go_wp2_with fail
 go_ret
 exact ⟨rfl, _, H3⟩

set_option maxRecDepth 100000 in
set_option maxHeartbeats 4000000 in
theorem mtouch_26 {xa xn : Int} {r j : Nat} {oj : Ob} (h : PlS B w W U R mb ib p S X fb c below.length cb ⟨26, xa, j, xn⟩) (hf : S.frs = f :: below) (hn : f.stk.length ≤ 1000) (hl : 2 ≤ f.stk.length) (hr : (tp f.stk 1).n = r) (hr2 : r < S.objs.length) (ho : S.objs.getD r default = oj) (hc : oj.cls = xa) (hj : j < oj.vals.length) :
  Calls Tryd.prog 50 #[.pointer (some ⟨mb, 0, none⟩), .agg #[.int .i64 26, .int .i64 xa, .int .i64 j, .int .i64 xn], .func (.func 44) #[] #[.pointer (some ⟨cb, 0, none⟩)], .func (.func 45) #[] #[.pointer (some ⟨cb, 0, none⟩)]] W fun e W' => e = .returned (.int .i64 0) ∧ ∃ X', Hid (PlS B w W' U R mb ib p { S with frs := { f with stk := cutV f.stk 2 } :: below, objs := S.objs.set r ⟨oj.cls, oj.vals.set j (tp f.stk 0)⟩ } X' fb c below.length cb ⟨26, xa, j, xn⟩) := by
 have H1 := Lib.hid (h.keep ((Upd.refl [] W).alloc (.cells #[.int .i64 26, .int .i64 xa, .int .i64 j, .int .i64 xn] 29)))
 have hA := heap_alloc_new W (.cells #[.int .i64 26, .int .i64 xa, .int .i64 j, .int .i64 xn] 29)
 have HF := Lib.hid hf
 have hvn := val_n
 obtain ⟨qr, hqv⟩ : ∃ qr, tp f.stk 1 = ⟨qr, r⟩ := ⟨(tp f.stk 1).ref, by rw [← hr]⟩
 have HQV := Lib.hid hqv
 clear h hf hr hqv
 have HOJ := Lib.hid ho
 clear ho
 have HC := Lib.hid hc
 clear hc
 obtain ⟨tr, tn, htv⟩ : ∃ tr tn, tp f.stk 0 = ⟨tr, tn⟩ := ⟨_, _, rfl⟩
 rw [htv]
 have HTV := Lib.hid htv
 clear htv
 go_enter Tryd.func50, Tryd.ntmps50
 go_upto_region 2 with fail
 generalize W.alloc (.cells #[.int .i64 26, .int .i64 xa, .int .i64 j, .int .i64 xn] 29) = w1 at H1 hA ⊢
 generalize W.heap.size = tb at hA ⊢
 have HA := Lib.hid hA
 have t0 : w1.cell? ⟨tb, 0, none⟩ = some (.int .i64 26) := by rw [cell_of hA]; rfl
 clear hA
 go_wp2_with fail
 refine (H1.out.top HF.out rfl 1 (by omega)).mono ?_
 rintro e w2 ⟨he, H2, hu2⟩
 rw [HQV.out] at he
 subst he
 have HA2 := Lib.hid (hu2.out.heap HA.out (by simp))
 have s0 : w2.cell? ⟨tb, 0, none⟩ = some (.int .i64 26) := by rw [cell_of HA2.out]; rfl
 have s1 : w2.cell? ⟨tb, 1, none⟩ = some (.int .i64 xa) := by rw [cell_of HA2.out]; rfl
 have s2 : w2.cell? ⟨tb, 2, none⟩ = some (.int .i64 j) := by rw [cell_of HA2.out]; rfl
 clear hu2 t0 H1
 obtain ⟨ob, oc, vb, vc, o0, o1, o2, hos⟩ := H2.out.obj HOJ.out hr2
 have hrr : (r : Int) < (S.objs.length : Int) := by omega
 have hr0 : (0 : Int) ≤ (r : Int) := by omega
 have hrn : ¬ ((r : Int) = -1) := by omega
 have HOS := Lib.hid hos
 clear hos
 go_upto_region 15 with fail
 have H3 := Lib.hid (H2.out.keep ((Upd.refl [] w2).alloc (.cells #[.int .i64 oj.cls, .slice vb oj.vals.length vc] 120)))
 have HA3 := Lib.hid (((Upd.refl [] w2).alloc (.cells #[.int .i64 oj.cls, .slice vb oj.vals.length vc] 120)).heap HA2.out (by simp))
 have HO3 := Lib.hid (heap_alloc_new w2 (.cells #[.int .i64 oj.cls, .slice vb oj.vals.length vc] 120))
 clear o0 o1 o2 s0 s1 s2
 generalize w2.alloc (.cells #[.int .i64 oj.cls, .slice vb oj.vals.length vc] 120) = w3 at H3 HA3 HO3 ⊢
 generalize w2.heap.size = sb at HO3 ⊢
 have s0 : w3.cell? ⟨tb, 0, none⟩ = some (.int .i64 26) := by rw [cell_of HA3.out]; rfl
 have s1 : w3.cell? ⟨tb, 1, none⟩ = some (.int .i64 xa) := by rw [cell_of HA3.out]; rfl
 have s2 : w3.cell? ⟨tb, 2, none⟩ = some (.int .i64 j) := by rw [cell_of HA3.out]; rfl
 have b0 : w3.cell? ⟨sb, 0, none⟩ = some (.int .i64 oj.cls) := by rw [cell_of HO3.out]; rfl
 have b1 : w3.cell? ⟨sb, 1, none⟩ = some (.slice vb oj.vals.length vc) := by rw [cell_of HO3.out]; rfl
 clear H2 HA2
 have hc := HC.out
 obtain ⟨g, vc', hos', ⟨g0, g1⟩, gz, _⟩ := H3.out.val HOJ.out hr2 hj
 rw [HOS.out] at hos'
 injection hos' with e1 _ e3
 subst e1 e3
 have hjj : (j : Int) < (oj.vals.length : Int) := by omega
 have hj0 : (0 : Int) ≤ (j : Int) := by omega
 have k0 : w3.cell? ⟨sb, 1, none⟩ = some (.slice (some ⟨g, 0, none⟩) oj.vals.length vc) := b1
 have HT := Lib.hid ((H3.out.keep ((Upd.refl [] w3).drew)).top HF.out rfl 0 (by omega))
 have HK : Hid (∀ V, Hid (PlS B w V U R mb ib p S X fb c below.length cb ⟨26, xa, j, xn⟩) → Hid (Upd [] w3.drew V) → V.cell? ⟨sb, 1, none⟩ = some (.slice (some ⟨g, 0, none⟩) oj.vals.length vc) ∧ (∀ k, V.frozen? ⟨g, k, none⟩ = false) ∧ (V.cell? ⟨g, j * 2, none⟩ = some (.bool (oj.vals.getD j default).ref) ∧ V.cell? ⟨g, j * 2 + 1, none⟩ = some (.int .i64 (oj.vals.getD j default).n)) ∧ Hid (PlS B w ((V.setCell ⟨g, j * 2, none⟩ (.bool tr)).setCell ⟨g, j * 2 + 1, none⟩ (.int .i64 tn)) U R mb ib p { S with objs := S.objs.set r ⟨oj.cls, oj.vals.set j ⟨tr, tn⟩⟩ } X fb c below.length cb ⟨26, xa, j, xn⟩)) := fun V hP hW => by
  have hx := ((Upd.refl [] w3).drew).trans hW.out
  obtain ⟨g2, vc2, ho2, h7, h2, h3⟩ := hP.out.val HOJ.out hr2 hj
  rw [HOS.out] at ho2
  injection ho2 with e1 _ e3
  injection e1 with e1
  injection e1 with e1
  subst e1
  exact ⟨hx.cell b1 (by simp), h2, h7, h3 ⟨tr, tn⟩⟩
 have HPUT : Hid (∀ V, Hid (PlS B w V U R mb ib p { S with objs := S.objs.set r ⟨oj.cls, oj.vals.set j ⟨tr, tn⟩⟩ } X fb c below.length cb ⟨26, xa, j, xn⟩) → Calls Tryd.prog 45 #[.int .i64 2, .slice none 0 0, .pointer (some ⟨cb, 0, none⟩)] V fun e V' => e = .returned (.tuple #[]) ∧ ∃ gs', Hid (PlS B w V' U R mb ib p { S with frs := { f with stk := cutV f.stk 2 } :: below, objs := S.objs.set r ⟨oj.cls, oj.vals.set j ⟨tr, tn⟩⟩ } { X with gs := gs' } fb c below.length cb ⟨26, xa, j, xn⟩)) := fun V hV => hV.out.put0 (f := f) HF.out rfl 2 hl hn
 go_upto_region 34 with fail
 refine wp_region_noPanic ?_
 refine wp_region_L (S := fun w' => w'.cell? ⟨sb, 1, none⟩ = some (.slice (some ⟨g, 0, none⟩) oj.vals.length vc)) 6 (by kernel_rfl) ?_ (fun hHeld => ?_)
 ·first | exact k0 | exact k1
 refine Nx.start [(0, [6]), (1, [6]), (2, [6]), (3, [6])] ?_
 iterate 4
  refine Nx.p (oi := ?_) (v := ?_) ?_ (by kernel_rfl) (fun _ _ _ h => h) ?_ ?_ hHeld ?_
  rotate_left 2
  ·simp only [List.getElem?_toArray, List.getElem?_cons_zero, List.getElem?_cons_succ]; rfl
  ·rfl
  ·intro _ hSw; (try dsimp only at hSw); go_simp <;> with_reducible rfl
  (try simp only [Act.put, List.setIfInBounds_toArray, List.set_cons_zero, List.set_cons_succ])
 refine Nx.stop ?_
 refine wpAnyL_one (i := 4) (o := ?_) (by kernel_rfl) ?_ (fun K hK => ?_)
 rotate_left 1
 ·simp only [List.getElem?_toArray, List.getElem?_cons_zero, List.getElem?_cons_succ]; rfl
 clear hHeld
 go_simp
 (go_at_call 44; refine (HT.out).mono ?_; rintro e w8 ⟨he, H8, hu8⟩; rw [HTV.out] at he; subst he; obtain ⟨k1, z0, ⟨y0, y1⟩, HS⟩ := HK.out w8 H8 hu8; clear H8 hu8)
 try go_wp2_with fail
 refine hK.out _ _ ?_ (fun hHeld => ?_)
 ·first | exact k0 | exact k1
 clear hK K
 (try simp only [Act.put, List.setIfInBounds_toArray, List.set_cons_zero, List.set_cons_succ])
 refine wpAnyL_takeP (i := 5) [6] (oi := ?_) (v := ?_) ?_ (by kernel_rfl) (by kernel_rfl) (by kernel_rfl) (by kernel_rfl) (fun _ _ _ h => h) (Or.inl ⟨?_, ?_⟩) hHeld ?_
 rotate_left 2
 ·simp only [List.getElem?_toArray, List.getElem?_cons_zero, List.getElem?_cons_succ]; rfl
 ·rfl
 ·intro _ hSw; (try dsimp only at hSw); go_simp <;> with_reducible rfl
 (try simp only [Act.put, List.setIfInBounds_toArray, List.set_cons_zero, List.set_cons_succ])
 refine wpAnyL_last (o := ?_) (by kernel_rfl) ?_ (fun K hK => ?_)
 rotate_left 1
 ·simp only [List.getElem?_toArray, List.getElem?_cons_zero, List.getElem?_cons_succ]; rfl
 clear hHeld
 go_simp
 refine hK.out _ _ ?_
 clear hK K
 (try simp only [Act.put, List.setIfInBounds_toArray, List.set_cons_zero, List.set_cons_succ])
 refine wpAnyL_done (by kernel_rfl) ?_ _
 refine NoPanic.normal ?_
 go_wp2_with fail
 refine (HPUT.out _ HS).mono ?_
 rintro e w9 ⟨rfl, gs', H9⟩
 go_wp2_with fail
 go_ret
 exact ⟨rfl, _, H9⟩

set_option maxRecDepth 100000 in
set_option maxHeartbeats 4000000 in
theorem mtouch_29c {xa xb xn : Int} {r : Nat} {oj : Ob} (h : PlS B w W U R mb ib p S X fb c below.length cb ⟨29, xa, xb, xn⟩) (hf : S.frs = f :: below) (hl : 2 ≤ f.stk.length) (hr : (tp f.stk 1).n = r) (hr2 : r < S.objs.length) (ho : S.objs.getD r default = oj) (hs : IntKind.i64.wrap (-1 - xa) = -1 - xa) (hc : ¬ oj.cls = -1 - xa) :
  Calls Tryd.prog 50 #[.pointer (some ⟨mb, 0, none⟩), .agg #[.int .i64 29, .int .i64 xa, .int .i64 xb, .int .i64 xn], .func (.func 44) #[] #[.pointer (some ⟨cb, 0, none⟩)], .func (.func 45) #[] #[.pointer (some ⟨cb, 0, none⟩)]] W fun e W' => e = .returned (.int .i64 2) ∧ ∃ X', Hid (PlS B w W' U R mb ib p S X' fb c below.length cb ⟨29, xa, xb, xn⟩) := by
 have H1 := Lib.hid (h.keep ((Upd.refl [] W).alloc (.cells #[.int .i64 29, .int .i64 xa, .int .i64 xb, .int .i64 xn] 29)))
 have hA := heap_alloc_new W (.cells #[.int .i64 29, .int .i64 xa, .int .i64 xb, .int .i64 xn] 29)
 have HF := Lib.hid hf
 have hvn := val_n
 obtain ⟨qr, hqv⟩ : ∃ qr, tp f.stk 1 = ⟨qr, r⟩ := ⟨(tp f.stk 1).ref, by rw [← hr]⟩
 have HQV := Lib.hid hqv
 clear h hf hr hqv
 have HOJ := Lib.hid ho
 clear ho
 have HC := Lib.hid hc
 clear hc
 go_enter Tryd.func50, Tryd.ntmps50
 go_upto_region 2 with fail
 generalize W.alloc (.cells #[.int .i64 29, .int .i64 xa, .int .i64 xb, .int .i64 xn] 29) = w1 at H1 hA ⊢
 generalize W.heap.size = tb at hA ⊢
 have HA := Lib.hid hA
 have t0 : w1.cell? ⟨tb, 0, none⟩ = some (.int .i64 29) := by rw [cell_of hA]; rfl
 clear hA
 go_wp2_with fail
 refine (H1.out.top HF.out rfl 1 (by omega)).mono ?_
 rintro e w2 ⟨he, H2, hu2⟩
 rw [HQV.out] at he
 subst he
 have HA2 := Lib.hid (hu2.out.heap HA.out (by simp))
 have s0 : w2.cell? ⟨tb, 0, none⟩ = some (.int .i64 29) := by rw [cell_of HA2.out]; rfl
 have s1 : w2.cell? ⟨tb, 1, none⟩ = some (.int .i64 xa) := by rw [cell_of HA2.out]; rfl
 have s2 : w2.cell? ⟨tb, 2, none⟩ = some (.int .i64 xb) := by rw [cell_of HA2.out]; rfl
 clear hu2 t0 H1
 obtain ⟨ob, oc, vb, vc, o0, o1, o2, hos⟩ := H2.out.obj HOJ.out hr2
 have hrr : (r : Int) < (S.objs.length : Int) := by omega
 have hr0 : (0 : Int) ≤ (r : Int) := by omega
 have hrn : ¬ ((r : Int) = -1) := by omega
 have HOS := Lib.hid hos
 clear hos
 go_upto_region 15 with fail
 have H3 := Lib.hid (H2.out.keep ((Upd.refl [] w2).alloc (.cells #[.int .i64 oj.cls, .slice vb oj.vals.length vc] 120)))
 have HA3 := Lib.hid (((Upd.refl [] w2).alloc (.cells #[.int .i64 oj.cls, .slice vb oj.vals.length vc] 120)).heap HA2.out (by simp))
 have HO3 := Lib.hid (heap_alloc_new w2 (.cells #[.int .i64 oj.cls, .slice vb oj.vals.length vc] 120))
 clear o0 o1 o2 s0 s1 s2
 generalize w2.alloc (.cells #[.int .i64 oj.cls, .slice vb oj.vals.length vc] 120) = w3 at H3 HA3 HO3 ⊢
 generalize w2.heap.size = sb at HO3 ⊢
 have s0 : w3.cell? ⟨tb, 0, none⟩ = some (.int .i64 29) := by rw [cell_of HA3.out]; rfl
 have s1 : w3.cell? ⟨tb, 1, none⟩ = some (.int .i64 xa) := by rw [cell_of HA3.out]; rfl
 have s2 : w3.cell? ⟨tb, 2, none⟩ = some (.int .i64 xb) := by rw [cell_of HA3.out]; rfl
 have b0 : w3.cell? ⟨sb, 0, none⟩ = some (.int .i64 oj.cls) := by rw [cell_of HO3.out]; rfl
 have b1 : w3.cell? ⟨sb, 1, none⟩ = some (.slice vb oj.vals.length vc) := by rw [cell_of HO3.out]; rfl
 clear H2 HA2
 have hc := HC.out
 go_wp2_with fail
 go_ret
 exact ⟨rfl, _, H3⟩

set_option maxRecDepth 100000 in
set_option maxHeartbeats 4000000 in
theorem mtouch_29b {xa xb xn iv : Int} {r : Nat} {oj : Ob} (h : PlS B w W U R mb ib p S X fb c below.length cb ⟨29, xa, xb, xn⟩) (hf : S.frs = f :: below) (hl : 2 ≤ f.stk.length) (hr : (tp f.stk 1).n = r) (hr2 : r < S.objs.length) (ho : S.objs.getD r default = oj) (hs : IntKind.i64.wrap (-1 - xa) = -1 - xa) (hc : oj.cls = -1 - xa) (hiv : (tp f.stk 0).n = iv) (hb : iv < 0 ∨ (oj.vals.length : Int) ≤ iv) :
  Calls Tryd.prog 50 #[.pointer (some ⟨mb, 0, none⟩), .agg #[.int .i64 29, .int .i64 xa, .int .i64 xb, .int .i64 xn], .func (.func 44) #[] #[.pointer (some ⟨cb, 0, none⟩)], .func (.func 45) #[] #[.pointer (some ⟨cb, 0, none⟩)]] W fun e W' => e = .returned (.int .i64 3) ∧ ∃ X', Hid (PlS B w W' U R mb ib p S X' fb c below.length cb ⟨29, xa, xb, xn⟩) := by
 have H1 := Lib.hid (h.keep ((Upd.refl [] W).alloc (.cells #[.int .i64 29, .int .i64 xa, .int .i64 xb, .int .i64 xn] 29)))
 have hA := heap_alloc_new W (.cells #[.int .i64 29, .int .i64 xa, .int .i64 xb, .int .i64 xn] 29)
 have HF := Lib.hid hf
 have hvn := val_n
 obtain ⟨qr, hqv⟩ : ∃ qr, tp f.stk 1 = ⟨qr, r⟩ := ⟨(tp f.stk 1).ref, by rw [← hr]⟩
 have HQV := Lib.hid hqv
 clear h hf hr hqv
 have HOJ := Lib.hid ho
 clear ho
 have HC := Lib.hid hc
 clear hc
 obtain ⟨ir, hix⟩ : ∃ ir, tp f.stk 0 = ⟨ir, iv⟩ := ⟨(tp f.stk 0).ref, by rw [← hiv]⟩
 have HIX := Lib.hid hix
 clear hix hiv
 go_enter Tryd.func50, Tryd.ntmps50
 go_upto_region 2 with fail
 generalize W.alloc (.cells #[.int .i64 29, .int .i64 xa, .int .i64 xb, .int .i64 xn] 29) = w1 at H1 hA ⊢
 generalize W.heap.size = tb at hA ⊢
 have HA := Lib.hid hA
 have t0 : w1.cell? ⟨tb, 0, none⟩ = some (.int .i64 29) := by rw [cell_of hA]; rfl
 clear hA
 go_wp2_with fail
 refine (H1.out.top HF.out rfl 1 (by omega)).mono ?_
 rintro e w2 ⟨he, H2, hu2⟩
 rw [HQV.out] at he
 subst he
 have HA2 := Lib.hid (hu2.out.heap HA.out (by simp))
 have s0 : w2.cell? ⟨tb, 0, none⟩ = some (.int .i64 29) := by rw [cell_of HA2.out]; rfl
 have s1 : w2.cell? ⟨tb, 1, none⟩ = some (.int .i64 xa) := by rw [cell_of HA2.out]; rfl
 have s2 : w2.cell? ⟨tb, 2, none⟩ = some (.int .i64 xb) := by rw [cell_of HA2.out]; rfl
 clear hu2 t0 H1
 obtain ⟨ob, oc, vb, vc, o0, o1, o2, hos⟩ := H2.out.obj HOJ.out hr2
 have hrr : (r : Int) < (S.objs.length : Int) := by omega
 have hr0 : (0 : Int) ≤ (r : Int) := by omega
 have hrn : ¬ ((r : Int) = -1) := by omega
 have HOS := Lib.hid hos
 clear hos
 go_upto_region 15 with fail
 have H3 := Lib.hid (H2.out.keep ((Upd.refl [] w2).alloc (.cells #[.int .i64 oj.cls, .slice vb oj.vals.length vc] 120)))
 have HA3 := Lib.hid (((Upd.refl [] w2).alloc (.cells #[.int .i64 oj.cls, .slice vb oj.vals.length vc] 120)).heap HA2.out (by simp))
 have HO3 := Lib.hid (heap_alloc_new w2 (.cells #[.int .i64 oj.cls, .slice vb oj.vals.length vc] 120))
 clear o0 o1 o2 s0 s1 s2
 generalize w2.alloc (.cells #[.int .i64 oj.cls, .slice vb oj.vals.length vc] 120) = w3 at H3 HA3 HO3 ⊢
 generalize w2.heap.size = sb at HO3 ⊢
 have s0 : w3.cell? ⟨tb, 0, none⟩ = some (.int .i64 29) := by rw [cell_of HA3.out]; rfl
 have s1 : w3.cell? ⟨tb, 1, none⟩ = some (.int .i64 xa) := by rw [cell_of HA3.out]; rfl
 have s2 : w3.cell? ⟨tb, 2, none⟩ = some (.int .i64 xb) := by rw [cell_of HA3.out]; rfl
 have b0 : w3.cell? ⟨sb, 0, none⟩ = some (.int .i64 oj.cls) := by rw [cell_of HO3.out]; rfl
 have b1 : w3.cell? ⟨sb, 1, none⟩ = some (.slice vb oj.vals.length vc) := by rw [cell_of HO3.out]; rfl
 clear H2 HA2
 have hc := HC.out
 go_wp2_with fail
 refine (H3.out.top HF.out rfl 0 (by omega)).mono ?_
 rintro e w4 ⟨he, H4, hu4⟩
 rw [HIX.out] at he
 subst he
 have HA4 := Lib.hid (hu4.out.heap HA3.out (by simp))
 have HO4 := Lib.hid (hu4.out.heap HO3.out (by simp))
 clear s0 s1 s2 b0 b1 hu4
 have s0 : w4.cell? ⟨tb, 0, none⟩ = some (.int .i64 29) := by rw [cell_of HA4.out]; rfl
 have b1 : w4.cell? ⟨sb, 1, none⟩ = some (.slice vb oj.vals.length vc) := by rw [cell_of HO4.out]; rfl
 clear H3
 have H3 := H4
 clear H4
 by_cases hneg : iv < 0
 ·go_wp2_with fail
  go_ret
  exact ⟨rfl, _, H3⟩
 ·have hge : (oj.vals.length : Int) ≤ iv := by omega
  go_wp2_with fail
  go_ret
  exact ⟨rfl, _, H3⟩

set_option maxRecDepth 100000 in
set_option maxHeartbeats 4000000 in
theorem mtouch_29 {xa xb xn : Int} {r j : Nat} {oj : Ob} (h : PlS B w W U R mb ib p S X fb c below.length cb ⟨29, xa, xb, xn⟩) (hf : S.frs = f :: below) (hn : f.stk.length ≤ 1000) (hl : 2 ≤ f.stk.length) (hr : (tp f.stk 1).n = r) (hr2 : r < S.objs.length) (ho : S.objs.getD r default = oj) (hs : IntKind.i64.wrap (-1 - xa) = -1 - xa) (hc : oj.cls = -1 - xa) (hiv : (tp f.stk 0).n = (j : Int)) (hj : j < oj.vals.length) :
  Calls Tryd.prog 50 #[.pointer (some ⟨mb, 0, none⟩), .agg #[.int .i64 29, .int .i64 xa, .int .i64 xb, .int .i64 xn], .func (.func 44) #[] #[.pointer (some ⟨cb, 0, none⟩)], .func (.func 45) #[] #[.pointer (some ⟨cb, 0, none⟩)]] W fun e W' => e = .returned (.int .i64 0) ∧ ∃ X', Hid (PlS B w W' U R mb ib p { S with frs := { f with stk := cutV f.stk 2 ++ [oj.vals.getD j default] } :: below } X' fb c below.length cb ⟨29, xa, xb, xn⟩) := by
 have H1 := Lib.hid (h.keep ((Upd.refl [] W).alloc (.cells #[.int .i64 29, .int .i64 xa, .int .i64 xb, .int .i64 xn] 29)))
 have hA := heap_alloc_new W (.cells #[.int .i64 29, .int .i64 xa, .int .i64 xb, .int .i64 xn] 29)
 have HF := Lib.hid hf
 have hvn := val_n
 obtain ⟨qr, hqv⟩ : ∃ qr, tp f.stk 1 = ⟨qr, r⟩ := ⟨(tp f.stk 1).ref, by rw [← hr]⟩
 have HQV := Lib.hid hqv
 clear h hf hr hqv
 have HOJ := Lib.hid ho
 clear ho
 have HC := Lib.hid hc
 clear hc
 obtain ⟨vr, vn, hv⟩ : ∃ vr vn, oj.vals.getD j default = ⟨vr, vn⟩ := ⟨_, _, rfl⟩
 rw [hv]
 have HV := Lib.hid hv
 clear hv
 obtain ⟨ir, hix⟩ : ∃ ir, tp f.stk 0 = ⟨ir, (j : Int)⟩ := ⟨(tp f.stk 0).ref, by rw [← hiv]⟩
 have HIX := Lib.hid hix
 clear hix hiv
 go_enter Tryd.func50, Tryd.ntmps50
 go_upto_region 2 with fail
 generalize W.alloc (.cells #[.int .i64 29, .int .i64 xa, .int .i64 xb, .int .i64 xn] 29) = w1 at H1 hA ⊢
 generalize W.heap.size = tb at hA ⊢
 have HA := Lib.hid hA
 have t0 : w1.cell? ⟨tb, 0, none⟩ = some (.int .i64 29) := by rw [cell_of hA]; rfl
 clear hA
 go_wp2_with fail
 refine (H1.out.top HF.out rfl 1 (by omega)).mono ?_
 rintro e w2 ⟨he, H2, hu2⟩
 rw [HQV.out] at he
 subst he
 have HA2 := Lib.hid (hu2.out.heap HA.out (by simp))
 have s0 : w2.cell? ⟨tb, 0, none⟩ = some (.int .i64 29) := by rw [cell_of HA2.out]; rfl
 have s1 : w2.cell? ⟨tb, 1, none⟩ = some (.int .i64 xa) := by rw [cell_of HA2.out]; rfl
 have s2 : w2.cell? ⟨tb, 2, none⟩ = some (.int .i64 xb) := by rw [cell_of HA2.out]; rfl
 clear hu2 t0 H1
 obtain ⟨ob, oc, vb, vc, o0, o1, o2, hos⟩ := H2.out.obj HOJ.out hr2
 have hrr : (r : Int) < (S.objs.length : Int) := by omega
 have hr0 : (0 : Int) ≤ (r : Int) := by omega
 have hrn : ¬ ((r : Int) = -1) := by omega
 have HOS := Lib.hid hos
 clear hos
 go_upto_region 15 with fail
 have H3 := Lib.hid (H2.out.keep ((Upd.refl [] w2).alloc (.cells #[.int .i64 oj.cls, .slice vb oj.vals.length vc] 120)))
 have HA3 := Lib.hid (((Upd.refl [] w2).alloc (.cells #[.int .i64 oj.cls, .slice vb oj.vals.length vc] 120)).heap HA2.out (by simp))
 have HO3 := Lib.hid (heap_alloc_new w2 (.cells #[.int .i64 oj.cls, .slice vb oj.vals.length vc] 120))
 clear o0 o1 o2 s0 s1 s2
 generalize w2.alloc (.cells #[.int .i64 oj.cls, .slice vb oj.vals.length vc] 120) = w3 at H3 HA3 HO3 ⊢
 generalize w2.heap.size = sb at HO3 ⊢
 have s0 : w3.cell? ⟨tb, 0, none⟩ = some (.int .i64 29) := by rw [cell_of HA3.out]; rfl
 have s1 : w3.cell? ⟨tb, 1, none⟩ = some (.int .i64 xa) := by rw [cell_of HA3.out]; rfl
 have s2 : w3.cell? ⟨tb, 2, none⟩ = some (.int .i64 xb) := by rw [cell_of HA3.out]; rfl
 have b0 : w3.cell? ⟨sb, 0, none⟩ = some (.int .i64 oj.cls) := by rw [cell_of HO3.out]; rfl
 have b1 : w3.cell? ⟨sb, 1, none⟩ = some (.slice vb oj.vals.length vc) := by rw [cell_of HO3.out]; rfl
 clear H2 HA2
 have hc := HC.out
 go_wp2_with fail
 refine (H3.out.top HF.out rfl 0 (by omega)).mono ?_
 rintro e w4 ⟨he, H4, hu4⟩
 rw [HIX.out] at he
 subst he
 have HA4 := Lib.hid (hu4.out.heap HA3.out (by simp))
 have HO4 := Lib.hid (hu4.out.heap HO3.out (by simp))
 clear s0 s1 s2 b0 b1 hu4
 have s0 : w4.cell? ⟨tb, 0, none⟩ = some (.int .i64 29) := by rw [cell_of HA4.out]; rfl
 have b1 : w4.cell? ⟨sb, 1, none⟩ = some (.slice vb oj.vals.length vc) := by rw [cell_of HO4.out]; rfl
 clear H3
 have H3 := H4
 clear H4
 obtain ⟨g, vc', hos', ⟨g0, g1⟩, gz, _⟩ := H3.out.val HOJ.out hr2 hj
 rw [HOS.out] at hos'
 injection hos' with e1 _ e3
 subst e1 e3
 have hjj : (j : Int) < (oj.vals.length : Int) := by omega
 have hj0 : (0 : Int) ≤ (j : Int) := by omega
 have hjn : ¬ ((j : Int) < 0) := by omega
 have hjl : ¬ ((oj.vals.length : Int) ≤ (j : Int)) := by omega
 rw [HV.out] at g0 g1
 have HP := Lib.hid (H3.out.put1 HF.out rfl 2 hl hn ⟨vr, vn⟩)
 go_wp2_with fail
 refine HP.out.mono ?_
 rintro e w5 ⟨rfl, gs', H5⟩
 go_wp2_with fail
 go_ret
 exact ⟨rfl, _, H5⟩

set_option maxRecDepth 100000 in
set_option maxHeartbeats 4000000 in
theorem mtouch_30c {xa xb xn : Int} {r : Nat} {oj : Ob} (h : PlS B w W U R mb ib p S X fb c below.length cb ⟨30, xa, xb, xn⟩) (hf : S.frs = f :: below) (hl : 3 ≤ f.stk.length) (hr : (tp f.stk 2).n = r) (hr2 : r < S.objs.length) (ho : S.objs.getD r default = oj) (hs : IntKind.i64.wrap (-1 - xa) = -1 - xa) (hc : ¬ oj.cls = -1 - xa) :
  Calls Tryd.prog 50 #[.pointer (some ⟨mb, 0, none⟩), .agg #[.int .i64 30, .int .i64 xa, .int .i64 xb, .int .i64 xn], .func (.func 44) #[] #[.pointer (some ⟨cb, 0, none⟩)], .func (.func 45) #[] #[.pointer (some ⟨cb, 0, none⟩)]] W fun e W' => e = .returned (.int .i64 2) ∧ ∃ X', Hid (PlS B w W' U R mb ib p S X' fb c below.length cb ⟨30, xa, xb, xn⟩) := by
 have H1 := Lib.hid (h.keep ((Upd.refl [] W).alloc (.cells #[.int .i64 30, .int .i64 xa, .int .i64 xb, .int .i64 xn] 29)))
 have hA := heap_alloc_new W (.cells #[.int .i64 30, .int .i64 xa, .int .i64 xb, .int .i64 xn] 29)
 have HF := Lib.hid hf
 have hvn := val_n
 obtain ⟨qr, hqv⟩ : ∃ qr, tp f.stk 2 = ⟨qr, r⟩ := ⟨(tp f.stk 2).ref, by rw [← hr]⟩
 have HQV := Lib.hid hqv
 clear h hf hr hqv
 have HOJ := Lib.hid ho
 clear ho
 have HC := Lib.hid hc
 clear hc
 go_enter Tryd.func50, Tryd.ntmps50
 go_upto_region 2 with fail
 generalize W.alloc (.cells #[.int .i64 30, .int .i64 xa, .int .i64 xb, .int .i64 xn] 29) = w1 at H1 hA ⊢
 generalize W.heap.size = tb at hA ⊢
 have HA := Lib.hid hA
 have t0 : w1.cell? ⟨tb, 0, none⟩ = some (.int .i64 30) := by rw [cell_of hA]; rfl
 clear hA
 go_wp2_with fail
 refine (H1.out.top HF.out rfl 2 (by omega)).mono ?_
 rintro e w2 ⟨he, H2, hu2⟩
 rw [HQV.out] at he
 subst he
 have HA2 := Lib.hid (hu2.out.heap HA.out (by simp))
 have s0 : w2.cell? ⟨tb, 0, none⟩ = some (.int .i64 30) := by rw [cell_of HA2.out]; rfl
 have s1 : w2.cell? ⟨tb, 1, none⟩ = some (.int .i64 xa) := by rw [cell_of HA2.out]; rfl
 have s2 : w2.cell? ⟨tb, 2, none⟩ = some (.int .i64 xb) := by rw [cell_of HA2.out]; rfl
 clear hu2 t0 H1
 obtain ⟨ob, oc, vb, vc, o0, o1, o2, hos⟩ := H2.out.obj HOJ.out hr2
 have hrr : (r : Int) < (S.objs.length : Int) := by omega
 have hr0 : (0 : Int) ≤ (r : Int) := by omega
 have hrn : ¬ ((r : Int) = -1) := by omega
 have HOS := Lib.hid hos
 clear hos
 go_upto_region 15 with fail
 have H3 := Lib.hid (H2.out.keep ((Upd.refl [] w2).alloc (.cells #[.int .i64 oj.cls, .slice vb oj.vals.length vc] 120)))
 have HA3 := Lib.hid (((Upd.refl [] w2).alloc (.cells #[.int .i64 oj.cls, .slice vb oj.vals.length vc] 120)).heap HA2.out (by simp))
 have HO3 := Lib.hid (heap_alloc_new w2 (.cells #[.int .i64 oj.cls, .slice vb oj.vals.length vc] 120))
 clear o0 o1 o2 s0 s1 s2
 generalize w2.alloc (.cells #[.int .i64 oj.cls, .slice vb oj.vals.length vc] 120) = w3 at H3 HA3 HO3 ⊢
 generalize w2.heap.size = sb at HO3 ⊢
 have s0 : w3.cell? ⟨tb, 0, none⟩ = some (.int .i64 30) := by rw [cell_of HA3.out]; rfl
 have s1 : w3.cell? ⟨tb, 1, none⟩ = some (.int .i64 xa) := by rw [cell_of HA3.out]; rfl
 have s2 : w3.cell? ⟨tb, 2, none⟩ = some (.int .i64 xb) := by rw [cell_of HA3.out]; rfl
 have b0 : w3.cell? ⟨sb, 0, none⟩ = some (.int .i64 oj.cls) := by rw [cell_of HO3.out]; rfl
 have b1 : w3.cell? ⟨sb, 1, none⟩ = some (.slice vb oj.vals.length vc) := by rw [cell_of HO3.out]; rfl
 clear H2 HA2
 have hc := HC.out
 go_wp2_with fail
 go_ret
 exact ⟨rfl, _, H3⟩

set_option maxRecDepth 100000 in
set_option maxHeartbeats 4000000 in
theorem mtouch_30b {xa xb xn iv : Int} {r : Nat} {oj : Ob} (h : PlS B w W U R mb ib p S X fb c below.length cb ⟨30, xa, xb, xn⟩) (hf : S.frs = f :: below) (hl : 3 ≤ f.stk.length) (hr : (tp f.stk 2).n = r) (hr2 : r < S.objs.length) (ho : S.objs.getD r default = oj) (hs : IntKind.i64.wrap (-1 - xa) = -1 - xa) (hc : oj.cls = -1 - xa) (hiv : (tp f.stk 1).n = iv) (hb : iv < 0 ∨ (oj.vals.length : Int) ≤ iv) :
  Calls Tryd.prog 50 #[.pointer (some ⟨mb, 0, none⟩), .agg #[.int .i64 30, .int .i64 xa, .int .i64 xb, .int .i64 xn], .func (.func 44) #[] #[.pointer (some ⟨cb, 0, none⟩)], .func (.func 45) #[] #[.pointer (some ⟨cb, 0, none⟩)]] W fun e W' => e = .returned (.int .i64 3) ∧ ∃ X', Hid (PlS B w W' U R mb ib p S X' fb c below.length cb ⟨30, xa, xb, xn⟩) := by
 have H1 := Lib.hid (h.keep ((Upd.refl [] W).alloc (.cells #[.int .i64 30, .int .i64 xa, .int .i64 xb, .int .i64 xn] 29)))
 have hA := heap_alloc_new W (.cells #[.int .i64 30, .int .i64 xa, .int .i64 xb, .int .i64 xn] 29)
 have HF := Lib.hid hf
 have hvn := val_n
 obtain ⟨qr, hqv⟩ : ∃ qr, tp f.stk 2 = ⟨qr, r⟩ := ⟨(tp f.stk 2).ref, by rw [← hr]⟩
 have HQV := Lib.hid hqv
 clear h hf hr hqv
 have HOJ := Lib.hid ho
 clear ho
 have HC := Lib.hid hc
 clear hc
 obtain ⟨ir, hix⟩ : ∃ ir, tp f.stk 1 = ⟨ir, iv⟩ := ⟨(tp f.stk 1).ref, by rw [← hiv]⟩
 have HIX := Lib.hid hix
 clear hix hiv
 go_enter Tryd.func50, Tryd.ntmps50
 go_upto_region 2 with fail
 generalize W.alloc (.cells #[.int .i64 30, .int .i64 xa, .int .i64 xb, .int .i64 xn] 29) = w1 at H1 hA ⊢
 generalize W.heap.size = tb at hA ⊢
 have HA := Lib.hid hA
 have t0 : w1.cell? ⟨tb, 0, none⟩ = some (.int .i64 30) := by rw [cell_of hA]; rfl
 clear hA
 go_wp2_with fail
 refine (H1.out.top HF.out rfl 2 (by omega)).mono ?_
 rintro e w2 ⟨he, H2, hu2⟩
 rw [HQV.out] at he
 subst he
 have HA2 := Lib.hid (hu2.out.heap HA.out (by simp))
 have s0 : w2.cell? ⟨tb, 0, none⟩ = some (.int .i64 30) := by rw [cell_of HA2.out]; rfl
 have s1 : w2.cell? ⟨tb, 1, none⟩ = some (.int .i64 xa) := by rw [cell_of HA2.out]; rfl
 have s2 : w2.cell? ⟨tb, 2, none⟩ = some (.int .i64 xb) := by rw [cell_of HA2.out]; rfl
 clear hu2 t0 H1
 obtain ⟨ob, oc, vb, vc, o0, o1, o2, hos⟩ := H2.out.obj HOJ.out hr2
 have hrr : (r : Int) < (S.objs.length : Int) := by omega
 have hr0 : (0 : Int) ≤ (r : Int) := by omega
 have hrn : ¬ ((r : Int) = -1) := by omega
 have HOS := Lib.hid hos
 clear hos
 go_upto_region 15 with fail
 have H3 := Lib.hid (H2.out.keep ((Upd.refl [] w2).alloc (.cells #[.int .i64 oj.cls, .slice vb oj.vals.length vc] 120)))
 have HA3 := Lib.hid (((Upd.refl [] w2).alloc (.cells #[.int .i64 oj.cls, .slice vb oj.vals.length vc] 120)).heap HA2.out (by simp))
 have HO3 := Lib.hid (heap_alloc_new w2 (.cells #[.int .i64 oj.cls, .slice vb oj.vals.length vc] 120))
 clear o0 o1 o2 s0 s1 s2
 generalize w2.alloc (.cells #[.int .i64 oj.cls, .slice vb oj.vals.length vc] 120) = w3 at H3 HA3 HO3 ⊢
 generalize w2.heap.size = sb at HO3 ⊢
 have s0 : w3.cell? ⟨tb, 0, none⟩ = some (.int .i64 30) := by rw [cell_of HA3.out]; rfl
 have s1 : w3.cell? ⟨tb, 1, none⟩ = some (.int .i64 xa) := by rw [cell_of HA3.out]; rfl
 have s2 : w3.cell? ⟨tb, 2, none⟩ = some (.int .i64 xb) := by rw [cell_of HA3.out]; rfl
 have b0 : w3.cell? ⟨sb, 0, none⟩ = some (.int .i64 oj.cls) := by rw [cell_of HO3.out]; rfl
 have b1 : w3.cell? ⟨sb, 1, none⟩ = some (.slice vb oj.vals.length vc) := by rw [cell_of HO3.out]; rfl
 clear H2 HA2
 have hc := HC.out
 go_wp2_with fail
 refine (H3.out.top HF.out rfl 1 (by omega)).mono ?_
 rintro e w4 ⟨he, H4, hu4⟩
 rw [HIX.out] at he
 subst he
 have HA4 := Lib.hid (hu4.out.heap HA3.out (by simp))
 have HO4 := Lib.hid (hu4.out.heap HO3.out (by simp))
 clear s0 s1 s2 b0 b1 hu4
 have s0 : w4.cell? ⟨tb, 0, none⟩ = some (.int .i64 30) := by rw [cell_of HA4.out]; rfl
 have b1 : w4.cell? ⟨sb, 1, none⟩ = some (.slice vb oj.vals.length vc) := by rw [cell_of HO4.out]; rfl
 clear H3
 have H3 := H4
 clear H4
 by_cases hneg : iv < 0
 ·go_wp2_with fail
  go_ret
  exact ⟨rfl, _, H3⟩
 ·have hge : (oj.vals.length : Int) ≤ iv := by omega
  go_wp2_with fail
  go_ret
  exact ⟨rfl, _, H3⟩

set_option maxRecDepth 100000 in
set_option maxHeartbeats 4000000 in
theorem mtouch_30 {xa xb xn : Int} {r j : Nat} {oj : Ob} (h : PlS B w W U R mb ib p S X fb c below.length cb ⟨30, xa, xb, xn⟩) (hf : S.frs = f :: below) (hn : f.stk.length ≤ 1000) (hl : 3 ≤ f.stk.length) (hr : (tp f.stk 2).n = r) (hr2 : r < S.objs.length) (ho : S.objs.getD r default = oj) (hs : IntKind.i64.wrap (-1 - xa) = -1 - xa) (hc : oj.cls = -1 - xa) (hiv : (tp f.stk 1).n = (j : Int)) (hj : j < oj.vals.length) :
  Calls Tryd.prog 50 #[.pointer (some ⟨mb, 0, none⟩), .agg #[.int .i64 30, .int .i64 xa, .int .i64 xb, .int .i64 xn], .func (.func 44) #[] #[.pointer (some ⟨cb, 0, none⟩)], .func (.func 45) #[] #[.pointer (some ⟨cb, 0, none⟩)]] W fun e W' => e = .returned (.int .i64 0) ∧ ∃ X', Hid (PlS B w W' U R mb ib p { S with frs := { f with stk := cutV f.stk 3 } :: below, objs := S.objs.set r ⟨oj.cls, oj.vals.set j (tp f.stk 0)⟩ } X' fb c below.length cb ⟨30, xa, xb, xn⟩) := by
 have H1 := Lib.hid (h.keep ((Upd.refl [] W).alloc (.cells #[.int .i64 30, .int .i64 xa, .int .i64 xb, .int .i64 xn] 29)))
 have hA := heap_alloc_new W (.cells #[.int .i64 30, .int .i64 xa, .int .i64 xb, .int .i64 xn] 29)
 have HF := Lib.hid hf
 have hvn := val_n
 obtain ⟨qr, hqv⟩ : ∃ qr, tp f.stk 2 = ⟨qr, r⟩ := ⟨(tp f.stk 2).ref, by rw [← hr]⟩
 have HQV := Lib.hid hqv
 clear h hf hr hqv
 have HOJ := Lib.hid ho
 clear ho
 have HC := Lib.hid hc
 clear hc
 obtain ⟨tr, tn, htv⟩ : ∃ tr tn, tp f.stk 0 = ⟨tr, tn⟩ := ⟨_, _, rfl⟩
 rw [htv]
 have HTV := Lib.hid htv
 clear htv
 obtain ⟨ir, hix⟩ : ∃ ir, tp f.stk 1 = ⟨ir, (j : Int)⟩ := ⟨(tp f.stk 1).ref, by rw [← hiv]⟩
 have HIX := Lib.hid hix
 clear hix hiv
 go_enter Tryd.func50, Tryd.ntmps50
 go_upto_region 2 with fail
 generalize W.alloc (.cells #[.int .i64 30, .int .i64 xa, .int .i64 xb, .int .i64 xn] 29) = w1 at H1 hA ⊢
 generalize W.heap.size = tb at hA ⊢
 have HA := Lib.hid hA
 have t0 : w1.cell? ⟨tb, 0, none⟩ = some (.int .i64 30) := by rw [cell_of hA]; rfl
 clear hA
 go_wp2_with fail
 refine (H1.out.top HF.out rfl 2 (by omega)).mono ?_
 rintro e w2 ⟨he, H2, hu2⟩
 rw [HQV.out] at he
 subst he
 have HA2 := Lib.hid (hu2.out.heap HA.out (by simp))
 have s0 : w2.cell? ⟨tb, 0, none⟩ = some (.int .i64 30) := by rw [cell_of HA2.out]; rfl
 have s1 : w2.cell? ⟨tb, 1, none⟩ = some (.int .i64 xa) := by rw [cell_of HA2.out]; rfl
 have s2 : w2.cell? ⟨tb, 2, none⟩ = some (.int .i64 xb) := by rw [cell_of HA2.out]; rfl
 clear hu2 t0 H1
 obtain ⟨ob, oc, vb, vc, o0, o1, o2, hos⟩ := H2.out.obj HOJ.out hr2
 have hrr : (r : Int) < (S.objs.length : Int) := by omega
 have hr0 : (0 : Int) ≤ (r : Int) := by omega
 have hrn : ¬ ((r : Int) = -1) := by omega
 have HOS := Lib.hid hos
 clear hos
 go_upto_region 15 with fail
 have H3 := Lib.hid (H2.out.keep ((Upd.refl [] w2).alloc (.cells #[.int .i64 oj.cls, .slice vb oj.vals.length vc] 120)))
 have HA3 := Lib.hid (((Upd.refl [] w2).alloc (.cells #[.int .i64 oj.cls, .slice vb oj.vals.length vc] 120)).heap HA2.out (by simp))
 have HO3 := Lib.hid (heap_alloc_new w2 (.cells #[.int .i64 oj.cls, .slice vb oj.vals.length vc] 120))
 clear o0 o1 o2 s0 s1 s2
 generalize w2.alloc (.cells #[.int .i64 oj.cls, .slice vb oj.vals.length vc] 120) = w3 at H3 HA3 HO3 ⊢
 generalize w2.heap.size = sb at HO3 ⊢
 have s0 : w3.cell? ⟨tb, 0, none⟩ = some (.int .i64 30) := by rw [cell_of HA3.out]; rfl
 have s1 : w3.cell? ⟨tb, 1, none⟩ = some (.int .i64 xa) := by rw [cell_of HA3.out]; rfl
 have s2 : w3.cell? ⟨tb, 2, none⟩ = some (.int .i64 xb) := by rw [cell_of HA3.out]; rfl
 have b0 : w3.cell? ⟨sb, 0, none⟩ = some (.int .i64 oj.cls) := by rw [cell_of HO3.out]; rfl
 have b1 : w3.cell? ⟨sb, 1, none⟩ = some (.slice vb oj.vals.length vc) := by rw [cell_of HO3.out]; rfl
 clear H2 HA2
 have hc := HC.out
 go_wp2_with fail
 refine (H3.out.top HF.out rfl 1 (by omega)).mono ?_
 rintro e w4 ⟨he, H4, hu4⟩
 rw [HIX.out] at he
 subst he
 have HA4 := Lib.hid (hu4.out.heap HA3.out (by simp))
 have HO4 := Lib.hid (hu4.out.heap HO3.out (by simp))
 clear s0 s1 s2 b0 b1 hu4
 have s0 : w4.cell? ⟨tb, 0, none⟩ = some (.int .i64 30) := by rw [cell_of HA4.out]; rfl
 have b1 : w4.cell? ⟨sb, 1, none⟩ = some (.slice vb oj.vals.length vc) := by rw [cell_of HO4.out]; rfl
 clear H3
 have H3 := H4
 clear H4
 obtain ⟨g, vc', hos', ⟨g0, g1⟩, gz, _⟩ := H3.out.val HOJ.out hr2 hj
 rw [HOS.out] at hos'
 injection hos' with e1 _ e3
 subst e1 e3
 have hjj : (j : Int) < (oj.vals.length : Int) := by omega
 have hj0 : (0 : Int) ≤ (j : Int) := by omega
 have hjn : ¬ ((j : Int) < 0) := by omega
 have hjl : ¬ ((oj.vals.length : Int) ≤ (j : Int)) := by omega
 have k0 : w4.cell? ⟨sb, 1, none⟩ = some (.slice (some ⟨g, 0, none⟩) oj.vals.length vc) := b1
 have HT := Lib.hid ((H3.out.keep ((Upd.refl [] w4).drew)).top HF.out rfl 0 (by omega))
 have HK : Hid (∀ V, Hid (PlS B w V U R mb ib p S X fb c below.length cb ⟨30, xa, xb, xn⟩) → Hid (Upd [] w4.drew V) → V.cell? ⟨sb, 1, none⟩ = some (.slice (some ⟨g, 0, none⟩) oj.vals.length vc) ∧ (∀ k, V.frozen? ⟨g, k, none⟩ = false) ∧ (V.cell? ⟨g, j * 2, none⟩ = some (.bool (oj.vals.getD j default).ref) ∧ V.cell? ⟨g, j * 2 + 1, none⟩ = some (.int .i64 (oj.vals.getD j default).n)) ∧ Hid (PlS B w ((V.setCell ⟨g, j * 2, none⟩ (.bool tr)).setCell ⟨g, j * 2 + 1, none⟩ (.int .i64 tn)) U R mb ib p { S with objs := S.objs.set r ⟨oj.cls, oj.vals.set j ⟨tr, tn⟩⟩ } X fb c below.length cb ⟨30, xa, xb, xn⟩)) := fun V hP hW => by
  have hx := ((Upd.refl [] w4).drew).trans hW.out
  obtain ⟨g2, vc2, ho2, h7, h2, h3⟩ := hP.out.val HOJ.out hr2 hj
  rw [HOS.out] at ho2
  injection ho2 with e1 _ e3
  injection e1 with e1
  injection e1 with e1
  subst e1
  exact ⟨hx.cell b1 (by simp), h2, h7, h3 ⟨tr, tn⟩⟩
 have HPUT : Hid (∀ V, Hid (PlS B w V U R mb ib p { S with objs := S.objs.set r ⟨oj.cls, oj.vals.set j ⟨tr, tn⟩⟩ } X fb c below.length cb ⟨30, xa, xb, xn⟩) → Calls Tryd.prog 45 #[.int .i64 3, .slice none 0 0, .pointer (some ⟨cb, 0, none⟩)] V fun e V' => e = .returned (.tuple #[]) ∧ ∃ gs', Hid (PlS B w V' U R mb ib p { S with frs := { f with stk := cutV f.stk 3 } :: below, objs := S.objs.set r ⟨oj.cls, oj.vals.set j ⟨tr, tn⟩⟩ } { X with gs := gs' } fb c below.length cb ⟨30, xa, xb, xn⟩)) := fun V hV => hV.out.put0 (f := f) HF.out rfl 3 hl hn
 go_upto_region 34 with fail
 refine wp_region_noPanic ?_
 refine wp_region_L (S := fun w' => w'.cell? ⟨sb, 1, none⟩ = some (.slice (some ⟨g, 0, none⟩) oj.vals.length vc)) 6 (by kernel_rfl) ?_ (fun hHeld => ?_)
 ·first | exact k0 | exact k1
 refine Nx.start [(0, [6]), (1, [6]), (2, [6]), (3, [6])] ?_
 iterate 4
  refine Nx.p (oi := ?_) (v := ?_) ?_ (by kernel_rfl) (fun _ _ _ h => h) ?_ ?_ hHeld ?_
  rotate_left 2
  ·simp only [List.getElem?_toArray, List.getElem?_cons_zero, List.getElem?_cons_succ]; rfl
  ·rfl
  ·intro _ hSw; (try dsimp only at hSw); go_simp <;> with_reducible rfl
  (try simp only [Act.put, List.setIfInBounds_toArray, List.set_cons_zero, List.set_cons_succ])
 refine Nx.stop ?_
 refine wpAnyL_one (i := 4) (o := ?_) (by kernel_rfl) ?_ (fun K hK => ?_)
 rotate_left 1
 ·simp only [List.getElem?_toArray, List.getElem?_cons_zero, List.getElem?_cons_succ]; rfl
 clear hHeld
 go_simp
 (go_at_call 44; refine (HT.out).mono ?_; rintro e w8 ⟨he, H8, hu8⟩; rw [HTV.out] at he; subst he; obtain ⟨k1, z0, ⟨y0, y1⟩, HS⟩ := HK.out w8 H8 hu8; clear H8 hu8)
 try go_wp2_with fail
 refine hK.out _ _ ?_ (fun hHeld => ?_)
 ·first | exact k0 | exact k1
 clear hK K
 (try simp only [Act.put, List.setIfInBounds_toArray, List.set_cons_zero, List.set_cons_succ])
 refine wpAnyL_takeP (i := 5) [6] (oi := ?_) (v := ?_) ?_ (by kernel_rfl) (by kernel_rfl) (by kernel_rfl) (by kernel_rfl) (fun _ _ _ h => h) (Or.inl ⟨?_, ?_⟩) hHeld ?_
 rotate_left 2
 ·simp only [List.getElem?_toArray, List.getElem?_cons_zero, List.getElem?_cons_succ]; rfl
 ·rfl
 ·intro _ hSw; (try dsimp only at hSw); go_simp <;> with_reducible rfl
 (try simp only [Act.put, List.setIfInBounds_toArray, List.set_cons_zero, List.set_cons_succ])
 refine wpAnyL_last (o := ?_) (by kernel_rfl) ?_ (fun K hK => ?_)
 rotate_left 1
 ·simp only [List.getElem?_toArray, List.getElem?_cons_zero, List.getElem?_cons_succ]; rfl
 clear hHeld
 go_simp
 refine hK.out _ _ ?_
 clear hK K
 (try simp only [Act.put, List.setIfInBounds_toArray, List.set_cons_zero, List.set_cons_succ])
 refine wpAnyL_done (by kernel_rfl) ?_ _
 refine NoPanic.normal ?_
 go_wp2_with fail
 refine (HPUT.out _ HS).mono ?_
 rintro e w9 ⟨rfl, gs', H9⟩
 go_wp2_with fail
 go_ret
 exact ⟨rfl, _, H9⟩

end
end Go.Proofs.YtojobkhidlfeoaaDoor

/-! model: Machine.touch, Machine.plain: any instruction. -/
namespace Go.Proofs.YtojobkhidlfeoaaDoor
open Go.RowKit

def trapN : Mact → Int
 | .trap t => t
 | .go _ _ _ _ _ => 0
/-- The machine behind a plain instruction: at the same place still. -/
def goS (S : Mc) (below : List Fm) (f : Fm) : Mact → Mc
 | .trap _ => S
 | .go loc stk objs inp out => { S with frs := ⟨f.m, f.pc, loc, stk⟩ :: below, objs := objs, inp := inp, out := out }
section
variable {B : Nat} {w W : World} {U R : List Nat} {mb ib : Nat} {p : Prg} {S : Mc} {X : MX} {f : Fm} {below : List Fm} {fb c cb : Nat}
theorem mtouch_any {x : Ins} {t : List UInt8} {ss : List Lk} (h : PlS B w W U R mb ib p S X fb c below.length cb x) (a : At p ss S f x t) (hf : S.frs = f :: below) (hn : f.stk.length ≤ 1000) (hop : x.op = 25 ∨ x.op = 26 ∨ x.op = 27 ∨ x.op = 29 ∨ x.op = 30 ∨ x.op = 31) :
  Calls Tryd.prog 50 #[.pointer (some ⟨mb, 0, none⟩), .agg #[.int .i64 x.op, .int .i64 x.a, .int .i64 x.b, .int .i64 x.n], .func (.func 44) #[] #[.pointer (some ⟨cb, 0, none⟩)], .func (.func 45) #[] #[.pointer (some ⟨cb, 0, none⟩)]] W fun e W' => e = .returned (.int .i64 (trapN (S.touch f x))) ∧ ∃ X', Hid (PlS B w W' U R mb ib p (goS S below f (S.touch f x)) X' fb c below.length cb x) := by
 obtain ⟨op, xa, xb, xn⟩ := x
 have hop2 : op = 25 ∨ op = 26 ∨ op = 27 ∨ op = 29 ∨ op = 30 ∨ op = 31 := hop
 clear hop
 rcases hop2 with rfl | rfl | rfl | rfl | rfl | rfl
 ·-- Get
  have hin := a.ins.cls (.inr (.inl rfl))
  have hfl := a.ins.fld (.inl rfl)
  have he : effL p (p.ms.getD f.m default) ⟨25, xa, xb, xn⟩ = some ([82], [(p.cs.getD xa.toNat ByteArray.empty).toList.getD xb.toNat 0]) := by
   unfold effL
   rw [show fieldL p.cs xa xb = [(p.cs.getD xa.toNat ByteArray.empty).toList.getD xb.toNat 0] by
    unfold fieldL
    rw [if_pos ⟨hin.1, hin.2⟩, atB_in hfl.1 (by rw [← size_list]; exact hfl.2)]]
   simp [lR]
  obtain ⟨h1, h2, h3⟩ := a.eff (show (25 : Int) ≠ 5 by decide) (show (25 : Int) ≠ 6 by decide) (show (25 : Int) ≠ 7 by decide) he
  simp only [List.length_singleton] at h1 h2 h3
  have hr := kd_R (h2 0 (by omega))
  by_cases h0 : (tp f.stk 0).n = -1
  ·have e : S.touch f ⟨25, xa, xb, xn⟩ = .trap 1 := by unfold Mc.touch; simp (decide := true) only [↓reduceIte]; rw [if_pos h0]
   rw [e]
   exact mtouch_25n h hf h1 h0
  obtain ⟨h4, h5, h6, h7⟩ := a.obj (a.tv (i := 0) (by omega)) hr h0
  by_cases hc : (S.objs.getD (tp f.stk 0).n.toNat default).cls = xa
  ·have e : S.touch f ⟨25, xa, xb, xn⟩ = .go f.loc (cutV f.stk 1 ++ [(S.objs.getD (tp f.stk 0).n.toNat default).vals.getD xb.toNat default]) S.objs S.inp S.out := by
    unfold Mc.touch
    simp (decide := true) only [↓reduceIte]
    rw [if_neg h0, if_neg (fun h => h hc)]
   rw [e]
   have hk := h7.kinds
   rw [hc] at hk
   unfold Prg.lets at hk
   rw [if_pos hin.1] at hk
   have hlen : xb.toNat < (S.objs.getD (tp f.stk 0).n.toNat default).vals.length := by
    rw [← kds_len, hk, ← size_list]
    have := hfl.1
    have := hfl.2
    simp only at *
    omega
   obtain ⟨j, rfl⟩ : ∃ j : Nat, xb = (j : Int) := ⟨xb.toNat, by have := hfl.1; simp only at this; omega⟩
   rw [Int.toNat_natCast] at hlen ⊢
   exact mtouch_25 (r := (tp f.stk 0).n.toNat) h hf hn h1 (by omega) h4 rfl hc hlen
  ·have e : S.touch f ⟨25, xa, xb, xn⟩ = .trap 2 := by
    unfold Mc.touch
    simp (decide := true) only [↓reduceIte]
    rw [if_neg h0, if_pos hc]
   rw [e]
   exact mtouch_25c (r := (tp f.stk 0).n.toNat) h hf h1 (by omega) h4 rfl hc
 ·-- Put
  have hin := a.ins.cls (.inr (.inr (.inl rfl)))
  have hfl := a.ins.fld (.inr rfl)
  have he : effL p (p.ms.getD f.m default) ⟨26, xa, xb, xn⟩ = some ([82, (p.cs.getD xa.toNat ByteArray.empty).toList.getD xb.toNat 0], []) := by
   unfold effL
   rw [show fieldL p.cs xa xb = [(p.cs.getD xa.toNat ByteArray.empty).toList.getD xb.toNat 0] by
    unfold fieldL
    rw [if_pos ⟨hin.1, hin.2⟩, atB_in hfl.1 (by rw [← size_list]; exact hfl.2)]]
   simp [lR]
  obtain ⟨h1, h2, h3⟩ := a.eff (show (26 : Int) ≠ 5 by decide) (show (26 : Int) ≠ 6 by decide) (show (26 : Int) ≠ 7 by decide) he
  simp only [List.length_cons, List.length_nil] at h1 h2 h3
  have hr := kd_R (h2 1 (by omega))
  by_cases h0 : (tp f.stk 1).n = -1
  ·have e : S.touch f ⟨26, xa, xb, xn⟩ = .trap 1 := by unfold Mc.touch; simp (decide := true) only [↓reduceIte]; rw [if_pos h0]
   rw [e]
   exact mtouch_26n h hf h1 h0
  obtain ⟨h4, h5, h6, h7⟩ := a.obj (a.tv (i := 1) (by omega)) hr h0
  by_cases hc : (S.objs.getD (tp f.stk 1).n.toNat default).cls = xa
  ·have e : S.touch f ⟨26, xa, xb, xn⟩ = .go f.loc (cutV f.stk 2) (S.objs.set (tp f.stk 1).n.toNat ⟨(S.objs.getD (tp f.stk 1).n.toNat default).cls, (S.objs.getD (tp f.stk 1).n.toNat default).vals.set xb.toNat (tp f.stk 0)⟩) S.inp S.out := by
    unfold Mc.touch
    simp (decide := true) only [↓reduceIte]
    rw [if_neg h0, if_neg (fun h => h hc)]
   rw [e]
   have hk := h7.kinds
   rw [hc] at hk
   unfold Prg.lets at hk
   rw [if_pos hin.1] at hk
   have hlen : xb.toNat < (S.objs.getD (tp f.stk 1).n.toNat default).vals.length := by
    rw [← kds_len, hk, ← size_list]
    have := hfl.1
    have := hfl.2
    simp only at *
    omega
   obtain ⟨j, rfl⟩ : ∃ j : Nat, xb = (j : Int) := ⟨xb.toNat, by have := hfl.1; simp only at this; omega⟩
   rw [Int.toNat_natCast] at hlen ⊢
   exact mtouch_26 (r := (tp f.stk 1).n.toNat) h hf hn h1 (by omega) h4 rfl hc hlen
  ·have e : S.touch f ⟨26, xa, xb, xn⟩ = .trap 2 := by
    unfold Mc.touch
    simp (decide := true) only [↓reduceIte]
    rw [if_neg h0, if_pos hc]
   rw [e]
   exact mtouch_26c (r := (tp f.stk 1).n.toNat) h hf h1 (by omega) h4 rfl hc
 ·-- Is
  have he : effL p (p.ms.getD f.m default) ⟨27, xa, xb, xn⟩ = some ([82], [73]) := by unfold effL; simp [lI, lR]
  obtain ⟨h1, h2, h3⟩ := a.eff (show (27 : Int) ≠ 5 by decide) (show (27 : Int) ≠ 6 by decide) (show (27 : Int) ≠ 7 by decide) he
  simp only [List.length_singleton] at h1 h2 h3
  have hr := kd_R (h2 0 (by omega))
  by_cases h0 : (tp f.stk 0).n = -1
  ·have e : S.touch f ⟨27, xa, xb, xn⟩ = .go f.loc (cutV f.stk 1 ++ [vi 0]) S.objs S.inp S.out := by unfold Mc.touch; simp (decide := true) only [↓reduceIte]; rw [if_neg (fun h => h.1 h0)]
   rw [e]
   exact mtouch_27n h hf hn h1 h0
  obtain ⟨h4, h5, h6, h7⟩ := a.obj (a.tv (i := 0) (by omega)) hr h0
  have e : S.touch f ⟨27, xa, xb, xn⟩ = .go f.loc (cutV f.stk 1 ++ [vi (if (S.objs.getD (tp f.stk 0).n.toNat default).cls = xa then 1 else 0)]) S.objs S.inp S.out := by
   unfold Mc.touch
   simp (decide := true) only [↓reduceIte]
   congr 4
   by_cases h8 : (S.objs.getD (tp f.stk 0).n.toNat default).cls = xa
   ·rw [if_pos ⟨h0, h8⟩, if_pos h8]
   ·rw [if_neg (fun h => h8 h.2), if_neg h8]
  rw [e]
  exact mtouch_27 (r := (tp f.stk 0).n.toNat) h hf hn h1 (by omega) h4 rfl
 ·-- Elem
  have ha := a.ins.arr (.inr (.inl rfl))
  have ha2 : xa = 0 ∨ xa = 1 := ha
  have he : effL p (p.ms.getD f.m default) ⟨29, xa, xb, xn⟩ = some ([82, 73], [if xa = 1 then 82 else 73]) := by
   unfold effL
   rcases ha2 with ha | ha <;> simp [lI, lR, ha, atB]
  obtain ⟨h1, h2, h3⟩ := a.eff (show (29 : Int) ≠ 5 by decide) (show (29 : Int) ≠ 6 by decide) (show (29 : Int) ≠ 7 by decide) he
  simp only [List.length_cons, List.length_nil] at h1 h2 h3
  have hr := kd_R (h2 1 (by omega))
  have hs : IntKind.i64.wrap (-1 - xa) = -1 - xa := IntWalk.i64_in _ (by omega)
  by_cases h0 : (tp f.stk 1).n = -1
  ·have e : S.touch f ⟨29, xa, xb, xn⟩ = .trap 1 := by unfold Mc.touch; simp (decide := true) only [↓reduceIte, Nat.reduceSub]; rw [if_pos h0]
   rw [e]
   exact mtouch_29n h hf h1 h0
  obtain ⟨h4, h5, h6, h7⟩ := a.obj (a.tv (i := 1) (by omega)) hr h0
  by_cases hc : (S.objs.getD (tp f.stk 1).n.toNat default).cls = -1 - xa
  ·by_cases hb : (tp f.stk 0).n < 0 ∨ ((S.objs.getD (tp f.stk 1).n.toNat default).vals.length : Int) ≤ (tp f.stk 0).n
   ·have e : S.touch f ⟨29, xa, xb, xn⟩ = .trap 3 := by
     unfold Mc.touch
     simp (decide := true) only [↓reduceIte, Nat.reduceSub]
     rw [if_neg h0, if_neg (fun h => h hc), if_pos hb]
    rw [e]
    exact mtouch_29b (r := (tp f.stk 1).n.toNat) h hf h1 (by omega) h4 rfl hs hc rfl hb
   ·have e : S.touch f ⟨29, xa, xb, xn⟩ = .go f.loc (cutV f.stk 2 ++ [(S.objs.getD (tp f.stk 1).n.toNat default).vals.getD (tp f.stk 0).n.toNat default]) S.objs S.inp S.out := by
     unfold Mc.touch
     simp (decide := true) only [↓reduceIte, Nat.reduceSub]
     rw [if_neg h0, if_neg (fun h => h hc), if_neg hb]
    rw [e]
    exact mtouch_29 (r := (tp f.stk 1).n.toNat) h hf hn h1 (by omega) h4 rfl hs hc (by omega) (by omega)
  ·have e : S.touch f ⟨29, xa, xb, xn⟩ = .trap 2 := by
    unfold Mc.touch
    simp (decide := true) only [↓reduceIte, Nat.reduceSub]
    rw [if_neg h0, if_pos hc]
   rw [e]
   exact mtouch_29c (r := (tp f.stk 1).n.toNat) h hf h1 (by omega) h4 rfl hs hc
 ·-- Set
  have ha := a.ins.arr (.inr (.inr rfl))
  have ha2 : xa = 0 ∨ xa = 1 := ha
  have he : effL p (p.ms.getD f.m default) ⟨30, xa, xb, xn⟩ = some ([82, 73, if xa = 1 then 82 else 73], []) := by
   unfold effL
   rcases ha2 with ha | ha <;> simp [lI, lR, ha, atB]
  obtain ⟨h1, h2, h3⟩ := a.eff (show (30 : Int) ≠ 5 by decide) (show (30 : Int) ≠ 6 by decide) (show (30 : Int) ≠ 7 by decide) he
  simp only [List.length_cons, List.length_nil] at h1 h2 h3
  have hr := kd_R (h2 2 (by omega))
  have hs : IntKind.i64.wrap (-1 - xa) = -1 - xa := IntWalk.i64_in _ (by omega)
  by_cases h0 : (tp f.stk 2).n = -1
  ·have e : S.touch f ⟨30, xa, xb, xn⟩ = .trap 1 := by unfold Mc.touch; simp (decide := true) only [↓reduceIte, Nat.reduceSub]; rw [if_pos h0]
   rw [e]
   exact mtouch_30n h hf h1 h0
  obtain ⟨h4, h5, h6, h7⟩ := a.obj (a.tv (i := 2) (by omega)) hr h0
  by_cases hc : (S.objs.getD (tp f.stk 2).n.toNat default).cls = -1 - xa
  ·by_cases hb : (tp f.stk 1).n < 0 ∨ ((S.objs.getD (tp f.stk 2).n.toNat default).vals.length : Int) ≤ (tp f.stk 1).n
   ·have e : S.touch f ⟨30, xa, xb, xn⟩ = .trap 3 := by
     unfold Mc.touch
     simp (decide := true) only [↓reduceIte, Nat.reduceSub]
     rw [if_neg h0, if_neg (fun h => h hc), if_pos hb]
    rw [e]
    exact mtouch_30b (r := (tp f.stk 2).n.toNat) h hf h1 (by omega) h4 rfl hs hc rfl hb
   ·have e : S.touch f ⟨30, xa, xb, xn⟩ = .go f.loc (cutV f.stk 3) (S.objs.set (tp f.stk 2).n.toNat ⟨(S.objs.getD (tp f.stk 2).n.toNat default).cls, (S.objs.getD (tp f.stk 2).n.toNat default).vals.set (tp f.stk 1).n.toNat (tp f.stk 0)⟩) S.inp S.out := by
     unfold Mc.touch
     simp (decide := true) only [↓reduceIte, Nat.reduceSub]
     rw [if_neg h0, if_neg (fun h => h hc), if_neg hb]
    rw [e]
    exact mtouch_30 (r := (tp f.stk 2).n.toNat) h hf hn h1 (by omega) h4 rfl hs hc (by omega) (by omega)
  ·have e : S.touch f ⟨30, xa, xb, xn⟩ = .trap 2 := by
    unfold Mc.touch
    simp (decide := true) only [↓reduceIte, Nat.reduceSub]
    rw [if_neg h0, if_pos hc]
   rw [e]
   exact mtouch_30c (r := (tp f.stk 2).n.toNat) h hf h1 (by omega) h4 rfl hs hc
 ·-- Len
  have he : effL p (p.ms.getD f.m default) ⟨31, xa, xb, xn⟩ = some ([82], [73]) := by unfold effL; simp [lI, lR]
  obtain ⟨h1, h2, h3⟩ := a.eff (show (31 : Int) ≠ 5 by decide) (show (31 : Int) ≠ 6 by decide) (show (31 : Int) ≠ 7 by decide) he
  simp only [List.length_singleton] at h1 h2 h3
  have hr := kd_R (h2 0 (by omega))
  by_cases h0 : (tp f.stk 0).n = -1
  ·have e : S.touch f ⟨31, xa, xb, xn⟩ = .trap 1 := by unfold Mc.touch; simp (decide := true) only [↓reduceIte]; rw [if_pos h0]
   rw [e]
   exact mtouch_31n h hf h1 h0
  obtain ⟨h4, h5, h6, h7⟩ := a.obj (a.tv (i := 0) (by omega)) hr h0
  by_cases hc : 0 ≤ (S.objs.getD (tp f.stk 0).n.toNat default).cls
  ·have e : S.touch f ⟨31, xa, xb, xn⟩ = .trap 2 := by
    unfold Mc.touch
    simp (decide := true) only [↓reduceIte]
    rw [if_neg h0, if_pos hc]
   rw [e]
   exact mtouch_31c (r := (tp f.stk 0).n.toNat) h hf h1 (by omega) h4 rfl hc
  ·have e : S.touch f ⟨31, xa, xb, xn⟩ = .go f.loc (cutV f.stk 1 ++ [vi (S.objs.getD (tp f.stk 0).n.toNat default).vals.length]) S.objs S.inp S.out := by
    unfold Mc.touch
    simp (decide := true) only [↓reduceIte]
    rw [if_neg h0, if_neg hc]
   rw [e]
   exact mtouch_31 (r := (tp f.stk 0).n.toNat) h hf hn h1 (by omega) h4 rfl hc
set_option maxRecDepth 100000 in
set_option maxHeartbeats 4000000 in
theorem mplain_touch {op xa xb xn t : Int} {S' : Mc} (h : MAt B w U R mb ib p S X) (hfv : X.fv = .slice (some ⟨fb, 0, none⟩) (below.length + 1) c) (hop : op = 25 ∨ op = 26 ∨ op = 27 ∨ op = 29 ∨ op = 30 ∨ op = 31)
  (ht : ∀ cb W, PlS B w W U R mb ib p S X fb c below.length cb ⟨op, xa, xb, xn⟩ → Calls Tryd.prog 50 #[.pointer (some ⟨mb, 0, none⟩), .agg #[.int .i64 op, .int .i64 xa, .int .i64 xb, .int .i64 xn], .func (.func 44) #[] #[.pointer (some ⟨cb, 0, none⟩)], .func (.func 45) #[] #[.pointer (some ⟨cb, 0, none⟩)]] W fun e W' => e = .returned (.int .i64 t) ∧ ∃ X', Hid (PlS B w W' U R mb ib p S' X' fb c below.length cb ⟨op, xa, xb, xn⟩)) :
  Calls Tryd.prog 34 #[.pointer (some ⟨mb, 0, none⟩), .pointer (some ⟨fb, below.length * 4, none⟩), .agg #[.int .i64 op, .int .i64 xa, .int .i64 xb, .int .i64 xn]] w fun e w' => e = .returned (.int .i64 t) ∧ PlEnd B w w' U R mb ib p X S' := by
 have H1 := Lib.hid (PlS.start (n := below.length) h hfv ⟨op, xa, xb, xn⟩)
 have HFV := Lib.hid hfv
 have HT := Lib.hid ht
 clear h hfv ht
 rcases hop with rfl | rfl | rfl | rfl | rfl | rfl
 ·go_enter Tryd.func34, Tryd.ntmps34
  go_upto_region 52 with fail
  generalize (w.alloc (.cells #[.pointer (some ⟨fb, below.length * 4, none⟩)] 98)).alloc (.cells #[.int .i64 25, .int .i64 xa, .int .i64 xb, .int .i64 xn] 29) = w1 at H1 ⊢
  generalize w.heap.size = cb at H1 ⊢
  have x0 : w1.cell? ⟨cb + 1, 0, none⟩ = some (.int .i64 25) := by rw [cell_of H1.out.xbx]; rfl
  have x1 : w1.cell? ⟨cb + 1, 1, none⟩ = some (.int .i64 xa) := by rw [cell_of H1.out.xbx]; rfl
  have x2 : w1.cell? ⟨cb + 1, 2, none⟩ = some (.int .i64 xb) := by rw [cell_of H1.out.xbx]; rfl
  have x3 : w1.cell? ⟨cb + 1, 3, none⟩ = some (.int .i64 xn) := by rw [cell_of H1.out.xbx]; rfl
  go_wp2_with fail
  refine (HT.out cb w1 H1.out).mono ?_
  rintro e w2 ⟨rfl, X2, H2⟩
  go_wp2_with fail
  go_ret
  exact ⟨rfl, H2.out.fin HFV.out⟩
 ·go_enter Tryd.func34, Tryd.ntmps34
  go_upto_region 52 with fail
  generalize (w.alloc (.cells #[.pointer (some ⟨fb, below.length * 4, none⟩)] 98)).alloc (.cells #[.int .i64 26, .int .i64 xa, .int .i64 xb, .int .i64 xn] 29) = w1 at H1 ⊢
  generalize w.heap.size = cb at H1 ⊢
  have x0 : w1.cell? ⟨cb + 1, 0, none⟩ = some (.int .i64 26) := by rw [cell_of H1.out.xbx]; rfl
  have x1 : w1.cell? ⟨cb + 1, 1, none⟩ = some (.int .i64 xa) := by rw [cell_of H1.out.xbx]; rfl
  have x2 : w1.cell? ⟨cb + 1, 2, none⟩ = some (.int .i64 xb) := by rw [cell_of H1.out.xbx]; rfl
  have x3 : w1.cell? ⟨cb + 1, 3, none⟩ = some (.int .i64 xn) := by rw [cell_of H1.out.xbx]; rfl
  go_wp2_with fail
  refine (HT.out cb w1 H1.out).mono ?_
  rintro e w2 ⟨rfl, X2, H2⟩
  go_wp2_with fail
  go_ret
  exact ⟨rfl, H2.out.fin HFV.out⟩
 ·go_enter Tryd.func34, Tryd.ntmps34
  go_upto_region 52 with fail
  generalize (w.alloc (.cells #[.pointer (some ⟨fb, below.length * 4, none⟩)] 98)).alloc (.cells #[.int .i64 27, .int .i64 xa, .int .i64 xb, .int .i64 xn] 29) = w1 at H1 ⊢
  generalize w.heap.size = cb at H1 ⊢
  have x0 : w1.cell? ⟨cb + 1, 0, none⟩ = some (.int .i64 27) := by rw [cell_of H1.out.xbx]; rfl
  have x1 : w1.cell? ⟨cb + 1, 1, none⟩ = some (.int .i64 xa) := by rw [cell_of H1.out.xbx]; rfl
  have x2 : w1.cell? ⟨cb + 1, 2, none⟩ = some (.int .i64 xb) := by rw [cell_of H1.out.xbx]; rfl
  have x3 : w1.cell? ⟨cb + 1, 3, none⟩ = some (.int .i64 xn) := by rw [cell_of H1.out.xbx]; rfl
  go_wp2_with fail
  refine (HT.out cb w1 H1.out).mono ?_
  rintro e w2 ⟨rfl, X2, H2⟩
  go_wp2_with fail
  go_ret
  exact ⟨rfl, H2.out.fin HFV.out⟩
 ·go_enter Tryd.func34, Tryd.ntmps34
  go_upto_region 52 with fail
  generalize (w.alloc (.cells #[.pointer (some ⟨fb, below.length * 4, none⟩)] 98)).alloc (.cells #[.int .i64 29, .int .i64 xa, .int .i64 xb, .int .i64 xn] 29) = w1 at H1 ⊢
  generalize w.heap.size = cb at H1 ⊢
  have x0 : w1.cell? ⟨cb + 1, 0, none⟩ = some (.int .i64 29) := by rw [cell_of H1.out.xbx]; rfl
  have x1 : w1.cell? ⟨cb + 1, 1, none⟩ = some (.int .i64 xa) := by rw [cell_of H1.out.xbx]; rfl
  have x2 : w1.cell? ⟨cb + 1, 2, none⟩ = some (.int .i64 xb) := by rw [cell_of H1.out.xbx]; rfl
  have x3 : w1.cell? ⟨cb + 1, 3, none⟩ = some (.int .i64 xn) := by rw [cell_of H1.out.xbx]; rfl
  go_wp2_with fail
  refine (HT.out cb w1 H1.out).mono ?_
  rintro e w2 ⟨rfl, X2, H2⟩
  go_wp2_with fail
  go_ret
  exact ⟨rfl, H2.out.fin HFV.out⟩
 ·go_enter Tryd.func34, Tryd.ntmps34
  go_upto_region 52 with fail
  generalize (w.alloc (.cells #[.pointer (some ⟨fb, below.length * 4, none⟩)] 98)).alloc (.cells #[.int .i64 30, .int .i64 xa, .int .i64 xb, .int .i64 xn] 29) = w1 at H1 ⊢
  generalize w.heap.size = cb at H1 ⊢
  have x0 : w1.cell? ⟨cb + 1, 0, none⟩ = some (.int .i64 30) := by rw [cell_of H1.out.xbx]; rfl
  have x1 : w1.cell? ⟨cb + 1, 1, none⟩ = some (.int .i64 xa) := by rw [cell_of H1.out.xbx]; rfl
  have x2 : w1.cell? ⟨cb + 1, 2, none⟩ = some (.int .i64 xb) := by rw [cell_of H1.out.xbx]; rfl
  have x3 : w1.cell? ⟨cb + 1, 3, none⟩ = some (.int .i64 xn) := by rw [cell_of H1.out.xbx]; rfl
  go_wp2_with fail
  refine (HT.out cb w1 H1.out).mono ?_
  rintro e w2 ⟨rfl, X2, H2⟩
  go_wp2_with fail
  go_ret
  exact ⟨rfl, H2.out.fin HFV.out⟩
 ·go_enter Tryd.func34, Tryd.ntmps34
  go_upto_region 52 with fail
  generalize (w.alloc (.cells #[.pointer (some ⟨fb, below.length * 4, none⟩)] 98)).alloc (.cells #[.int .i64 31, .int .i64 xa, .int .i64 xb, .int .i64 xn] 29) = w1 at H1 ⊢
  generalize w.heap.size = cb at H1 ⊢
  have x0 : w1.cell? ⟨cb + 1, 0, none⟩ = some (.int .i64 31) := by rw [cell_of H1.out.xbx]; rfl
  have x1 : w1.cell? ⟨cb + 1, 1, none⟩ = some (.int .i64 xa) := by rw [cell_of H1.out.xbx]; rfl
  have x2 : w1.cell? ⟨cb + 1, 2, none⟩ = some (.int .i64 xb) := by rw [cell_of H1.out.xbx]; rfl
  have x3 : w1.cell? ⟨cb + 1, 3, none⟩ = some (.int .i64 xn) := by rw [cell_of H1.out.xbx]; rfl
  go_wp2_with fail
  refine (HT.out cb w1 H1.out).mono ?_
  rintro e w2 ⟨rfl, X2, H2⟩
  go_wp2_with fail
  go_ret
  exact ⟨rfl, H2.out.fin HFV.out⟩
end
end Go.Proofs.YtojobkhidlfeoaaDoor

/-! model: Machine.plain: any instruction. -/
namespace Go.Proofs.YtojobkhidlfeoaaDoor
open Go.RowKit

section
variable {B : Nat} {w : World} {U R : List Nat} {mb ib : Nat} {p : Prg} {S : Mc} {X : MX} {f : Fm} {below : List Fm} {fb c : Nat}
theorem mplain_any {x : Ins} {t : List UInt8} {ss : List Lk} (h : MAt B w U R mb ib p S X) (ok : p.Ok) (a : At p ss S f x t) (hf : S.frs = f :: below) (hfv : X.fv = .slice (some ⟨fb, 0, none⟩) (below.length + 1) c) (hn : f.stk.length ≤ 1000) (h22 : x.op ≠ 22) (h23 : x.op ≠ 23) (h32 : x.op ≠ 32) (h33 : x.op ≠ 33) :
  Calls Tryd.prog 34 #[.pointer (some ⟨mb, 0, none⟩), .pointer (some ⟨fb, below.length * 4, none⟩), .agg #[.int .i64 x.op, .int .i64 x.a, .int .i64 x.b, .int .i64 x.n]] w fun e w' => e = .returned (.int .i64 (trapN (S.plain p f x))) ∧ PlEnd B w w' U R mb ib p X (goS S below f (S.plain p f x)) := by
 by_cases hx : x.op = 25 ∨ x.op = 26 ∨ x.op = 27 ∨ x.op = 29 ∨ x.op = 30 ∨ x.op = 31
 ·have e : S.plain p f x = S.touch f x := by
   unfold Mc.plain
   rw [if_neg (by omega), if_neg (by omega), if_neg (by omega), if_neg (by omega), if_neg (by omega), if_neg (by omega), if_neg (by omega), if_neg (by omega), if_neg (by omega), if_neg (by omega), if_neg (by omega), if_neg (by omega), if_neg (by omega), if_pos hx]
  rw [e]
  exact mplain_touch h hfv hx fun cb W hW => mtouch_any (x := x) hW a hf hn hx
 have hop := a.ins.op
 obtain ⟨op, xa, xb, xn⟩ := x
 simp only at hx hop h22 h23 h32 h33
 have ht := hx
 clear hx
 by_cases hx : op = 1
 ·subst hx
  have e : S.plain p f ⟨1, xa, xb, xn⟩ = .go f.loc (cutV f.stk 0 ++ [vi xn]) S.objs S.inp S.out := by unfold Mc.plain; simp (decide := true) only [↓reduceIte]
  rw [e]
  exact mplain_1 h hf hfv hn
 by_cases hx : op = 2
 ·subst hx
  have e : S.plain p f ⟨2, xa, xb, xn⟩ = .go f.loc (cutV f.stk 0 ++ [vr (-1)]) S.objs S.inp S.out := by unfold Mc.plain; simp (decide := true) only [↓reduceIte]
  rw [e]
  exact mplain_2 h hf hfv hn
 by_cases hx : op = 3
 ·subst hx
  have hl := a.ins.loc (.inl rfl)
  have hlen : xa.toNat < f.loc.length := by
   rw [← kds_len, a.fr.loc]
   have := hl.1
   have := hl.2
   simp only at *
   omega
  obtain ⟨i, rfl⟩ : ∃ i : Nat, xa = (i : Int) := ⟨xa.toNat, by have := hl.1; simp only at this; omega⟩
  have e : S.plain p f ⟨3, i, xb, xn⟩ = .go f.loc (cutV f.stk 0 ++ [f.loc.getD i default]) S.objs S.inp S.out := by unfold Mc.plain; simp (decide := true) only [↓reduceIte]; rw [Int.toNat_natCast]
  rw [e]
  rw [Int.toNat_natCast] at hlen
  exact mplain_3 h hf hfv hn hlen
 by_cases hx : op = 4
 ·subst hx
  have hq := a.ins.loc (.inr rfl)
  have hq1 : 0 ≤ xa := hq.1
  have hq2 : xa < (kindsL (p.ms.getD f.m default)).length := hq.2
  have he : effL p (p.ms.getD f.m default) ⟨4, xa, xb, xn⟩ = some ([(kindsL (p.ms.getD f.m default)).getD xa.toNat 0], []) := by
   unfold effL
   rw [atB_in hq1 hq2]
   simp
  obtain ⟨h1, _, _⟩ := a.eff (show (4 : Int) ≠ 5 by decide) (show (4 : Int) ≠ 6 by decide) (show (4 : Int) ≠ 7 by decide) he
  simp only [List.length_singleton] at h1
  have hl := a.ins.loc (.inr rfl)
  have hlen : xa.toNat < f.loc.length := by
   rw [← kds_len, a.fr.loc]
   have := hl.1
   have := hl.2
   simp only at *
   omega
  obtain ⟨i, rfl⟩ : ∃ i : Nat, xa = (i : Int) := ⟨xa.toNat, by have := hl.1; simp only at this; omega⟩
  have e : S.plain p f ⟨4, i, xb, xn⟩ = .go (f.loc.set i (tp f.stk 0)) (cutV f.stk 1) S.objs S.inp S.out := by unfold Mc.plain; simp (decide := true) only [↓reduceIte]; rw [Int.toNat_natCast]
  rw [e]
  rw [Int.toNat_natCast] at hlen
  exact mplain_4 h hf hfv hn hlen h1
 by_cases hx : op = 5
 ·subst hx
  have h1 := (behL_dup a.beh rfl).1
  rw [kds_len] at h1
  have e : S.plain p f ⟨5, xa, xb, xn⟩ = .go f.loc (cutV f.stk 0 ++ [tp f.stk 0]) S.objs S.inp S.out := by unfold Mc.plain; simp (decide := true) only [↓reduceIte]
  rw [e]
  exact mplain_5 h hf hfv hn h1
 by_cases hx : op = 6
 ·subst hx
  have h1 := (behL_pop a.beh rfl).1
  rw [kds_len] at h1
  have e : S.plain p f ⟨6, xa, xb, xn⟩ = .go f.loc (cutV f.stk 1) S.objs S.inp S.out := by unfold Mc.plain; simp (decide := true) only [↓reduceIte]; rw [List.append_nil]
  rw [e]
  exact mplain_6 h hf hfv hn h1
 by_cases hx : op = 7
 ·subst hx
  have h1 := (behL_swap a.beh rfl).1
  rw [kds_len] at h1
  have e : S.plain p f ⟨7, xa, xb, xn⟩ = .go f.loc (cutV f.stk 2 ++ [tp f.stk 0, tp f.stk 1]) S.objs S.inp S.out := by unfold Mc.plain; simp (decide := true) only [↓reduceIte]
  rw [e]
  exact mplain_7 h hf hfv hn h1
 by_cases hx : op = 18
 ·subst hx
  have he : effL p (p.ms.getD f.m default) ⟨18, xa, xb, xn⟩ = some ([73], [73]) := by unfold effL; simp [lI]
  obtain ⟨h1, _, _⟩ := a.eff (show (18 : Int) ≠ 5 by decide) (show (18 : Int) ≠ 6 by decide) (show (18 : Int) ≠ 7 by decide) he
  simp only [List.length_cons, List.length_nil] at h1
  have e : S.plain p f ⟨18, xa, xb, xn⟩ = .go f.loc (cutV f.stk 1 ++ [vi (IntKind.i64.wrap (-(tp f.stk 0).n))]) S.objs S.inp S.out := by unfold Mc.plain; simp (decide := true) only [↓reduceIte]
  rw [e]
  exact mplain_18 h hf hfv hn h1
 by_cases hx : op = 21
 ·subst hx
  have he : effL p (p.ms.getD f.m default) ⟨21, xa, xb, xn⟩ = some ([82, 82], [73]) := by unfold effL; simp [lI, lR]
  obtain ⟨h1, _, _⟩ := a.eff (show (21 : Int) ≠ 5 by decide) (show (21 : Int) ≠ 6 by decide) (show (21 : Int) ≠ 7 by decide) he
  simp only [List.length_cons, List.length_nil] at h1
  have e : S.plain p f ⟨21, xa, xb, xn⟩ = .go f.loc (cutV f.stk 2 ++ [vi (if (tp f.stk 0).n = (tp f.stk 1).n then 1 else 0)]) S.objs S.inp S.out := by unfold Mc.plain; simp (decide := true) only [↓reduceIte]
  rw [e]
  exact mplain_21 h hf hfv hn h1
 by_cases hx : op = 34
 ·subst hx
  cases hi : S.inp with
  | nil =>
   have e : S.plain p f ⟨34, xa, xb, xn⟩ = .trap 6 := by unfold Mc.plain; simp (decide := true) only [↓reduceIte]; rw [hi]
   rw [e]
   exact mplain_34n h hf hfv hi
  | cons k r =>
   have e : S.plain p f ⟨34, xa, xb, xn⟩ = .go f.loc (cutV f.stk 0 ++ [vi k]) S.objs r S.out := by unfold Mc.plain; simp (decide := true) only [↓reduceIte]; rw [hi, show cutV f.stk 0 = f.stk by unfold cutV; simp]
   rw [e]
   exact mplain_34 h hf hfv hn hi
 by_cases hx : op = 35
 ·subst hx
  have he : effL p (p.ms.getD f.m default) ⟨35, xa, xb, xn⟩ = some ([73], []) := by unfold effL; simp [lI]
  obtain ⟨h1, _, _⟩ := a.eff (show (35 : Int) ≠ 5 by decide) (show (35 : Int) ≠ 6 by decide) (show (35 : Int) ≠ 7 by decide) he
  simp only [List.length_cons, List.length_nil] at h1
  have e : S.plain p f ⟨35, xa, xb, xn⟩ = .go f.loc (cutV f.stk 1) S.objs S.inp (S.out ++ [(tp f.stk 0).n]) := by unfold Mc.plain; simp (decide := true) only [↓reduceIte]
  rw [e]
  exact mplain_35 h hf hfv hn h1 (by have := a.ok.room; omega)
 by_cases hx : op = 24
 ·subst hx
  have hin := a.ins.cls (.inl rfl)
  have hi1 : 0 ≤ xa := hin.1
  have hi2 : xa < p.cs.length := hin.2
  have hfl := ok.fields hi1 hi2
  obtain ⟨i, rfl⟩ : ∃ i : Nat, xa = (i : Int) := ⟨xa.toNat, by omega⟩
  rw [Int.toNat_natCast] at hfl
  have e : S.plain p f ⟨24, i, xb, xn⟩ = .go f.loc (cutV f.stk 0 ++ [vr S.objs.length]) (S.objs ++ [p.made i 0]) S.inp S.out := by unfold Mc.plain; simp (decide := true) only [↓reduceIte]; rw [show cutV f.stk 0 = f.stk by unfold cutV; simp]
  rw [e]
  exact mplain_24 h hf hfv hn (by omega) (by have := hfl.2; omega) (by have := a.ok.room; omega)
 by_cases hx : op = 28
 ·subst hx
  have he : effL p (p.ms.getD f.m default) ⟨28, xa, xb, xn⟩ = some ([73], [82]) := by unfold effL; simp [lI, lR]
  obtain ⟨h1, _, _⟩ := a.eff (show (28 : Int) ≠ 5 by decide) (show (28 : Int) ≠ 6 by decide) (show (28 : Int) ≠ 7 by decide) he
  simp only [List.length_cons, List.length_nil] at h1
  have ha : xa = 0 ∨ xa = 1 := a.ins.arr (.inl rfl)
  obtain ⟨i, rfl⟩ : ∃ i : Nat, xa = (i : Int) := ⟨xa.toNat, by omega⟩
  by_cases hb : (tp f.stk 0).n < 0 ∨ 50 < (tp f.stk 0).n
  ·have e : S.plain p f ⟨28, i, xb, xn⟩ = .trap 4 := by unfold Mc.plain; simp (decide := true) only [↓reduceIte]; rw [if_pos hb]
   rw [e]
   exact mplain_28t h hf hfv h1 hb
  ·have e : S.plain p f ⟨28, i, xb, xn⟩ = .go f.loc (cutV f.stk 1 ++ [vr S.objs.length]) (S.objs ++ [p.made (-1 - (i : Int)) (tp f.stk 0).n.toNat]) S.inp S.out := by unfold Mc.plain; simp (decide := true) only [↓reduceIte]; rw [if_neg hb]
   rw [e]
   exact mplain_28 h hf hfv hn (by omega) h1 (by omega) (by omega) (by have := a.ok.room; omega)
 have hop2 : op = 8 ∨ op = 9 ∨ op = 10 ∨ op = 11 ∨ op = 12 ∨ op = 13 ∨ op = 14 ∨ op = 15 ∨ op = 16 ∨ op = 17 ∨ op = 19 ∨ op = 20 := by omega
 have he : effL p (p.ms.getD f.m default) ⟨op, xa, xb, xn⟩ = some ([73, 73], [73]) := by
  unfold effL
  rw [if_pos (show 8 ≤ op ∧ op ≤ 20 ∧ op ≠ 18 by omega)]
  rfl
 obtain ⟨h1, _, _⟩ := a.eff (show op ≠ 5 by omega) (show op ≠ 6 by omega) (show op ≠ 7 by omega) he
 simp only [List.length_cons, List.length_nil] at h1
 have hgo := mplain_two (xa := xa) (xb := xb) (xn := xn) (nv := (twoL op (tp f.stk 1).n (tp f.stk 0).n).1) (nt := (twoL op (tp f.stk 1).n (tp f.stk 0).n).2) h hf hfv hn h1 hop2 (a.tv (i := 1) h1).2 rfl
 have e : S.plain p f ⟨op, xa, xb, xn⟩ = if (twoL op (tp f.stk 1).n (tp f.stk 0).n).2 ≠ 0 then .trap (twoL op (tp f.stk 1).n (tp f.stk 0).n).2 else .go f.loc (cutV f.stk 2 ++ [vi (twoL op (tp f.stk 1).n (tp f.stk 0).n).1]) S.objs S.inp S.out := by
  unfold Mc.plain
  simp only
  rw [if_neg (by omega), if_neg (by omega), if_neg (by omega), if_neg (by omega), if_neg (by omega), if_neg (by omega), if_neg (by omega), if_neg (by omega), if_neg (by omega), if_neg (by omega), if_neg (by omega), if_neg (by omega), if_neg (by omega), if_neg (by omega)]
 rw [e]
 by_cases hz : (twoL op (tp f.stk 1).n (tp f.stk 0).n).2 = 0
 ·rw [if_neg (fun h => h hz)] at hgo ⊢
  rw [hz] at hgo
  exact hgo
 ·rw [if_pos hz] at hgo ⊢
  exact hgo
end
end Go.Proofs.YtojobkhidlfeoaaDoor
