/- model: in the midst of Machine.plain: its boxes, its closures. model: Machine.plain, kind by kind. model: Machine.plain, kind by kind: locals, arithmetic. -/
import Derived.Test.YtojobkhidlfeoaaDoorMwF
import Derived.Test.YtojobkhidlfeoaaDoorWdT
import Derived.Test.YtojobkhidlfeoaaDoorMdM
import Derived.Test.YtojobkhidlfeoaaDoorHeldL
/-! model: in the midst of Machine.plain: its boxes, its closures. -/
namespace Go.Proofs.YtojobkhidlfeoaaDoor
open Go.RowKit

/-- In the midst of plain: the machine, the boxes of the frame's place and of the instruction. -/
structure PlS (B : Nat) (w W : World) (U R : List Nat) (mb ib : Nat) (p : Prg) (S : Mc) (X : MX) (fb c n cb : Nat) (x : Ins) : Prop where
 m : MAt B W (U ++ news w W) (R ++ news w W) mb ib p S X
 fv : X.fv = .slice (some ⟨fb, 0, none⟩) (n + 1) c
 cbx : W.heap[cb]? = some (.cells #[.pointer (some ⟨fb, n * 4, none⟩)] 98)
 xbx : W.heap[cb + 1]? = some (.cells #[.int .i64 x.op, .int .i64 x.a, .int .i64 x.b, .int .i64 x.n] 29)
 upd : Upd R w W
section
variable {B : Nat} {w W W' : World} {U R : List Nat} {mb ib : Nat} {p : Prg} {S : Mc} {X : MX} {f : Fm} {below : List Fm} {fb c n cb : Nat} {x : Ins}
theorem PlS.keep (h : PlS B w W U R mb ib p S X fb c n cb x) (hu : Upd [] W W') : PlS B w W' U R mb ib p S X fb c n cb x := by
 have h1 := h.m.new hu
 rw [List.append_assoc, List.append_assoc, ← news_app h.upd.size hu.size] at h1
 exact ⟨h1, h.fv, hu.heap h.cbx (by simp), hu.heap h.xbx (by simp), h.upd.trans (hu.mono (T := R) (by simp))⟩
/-- The machine's own blocks were written. -/
theorem PlS.turn (h : PlS B w W U R mb ib p S X fb c n cb x) {S' : Mc} {X' : MX} {T : List Nat} (h1 : MAt B W' (U ++ news w W ++ news W W') (R ++ news w W ++ news W W') mb ib p S' X') (hu : Upd T W W') (hT : ∀ b ∈ T, b ∈ R ++ news w W) (hfv : X'.fv = X.fv) (hcb : cb ∉ T) (hxb : cb + 1 ∉ T) : PlS B w W' U R mb ib p S' X' fb c n cb x := by
 rw [List.append_assoc, List.append_assoc, ← news_app h.upd.size hu.size] at h1
 refine ⟨h1, by rw [hfv]; exact h.fv, hu.heap h.cbx hcb, hu.heap h.xbx hxb, h.upd.trans' hu (fun b hb hl => ?_)⟩
 rcases List.mem_append.1 (hT b hb) with h2 | h2
 ·exact h2
 ·have := (mem_news.1 h2).1; omega
theorem PlS.start (h : MAt B w U R mb ib p S X) (hfv : X.fv = .slice (some ⟨fb, 0, none⟩) (n + 1) c) (x : Ins) : PlS B w ((w.alloc (.cells #[.pointer (some ⟨fb, n * 4, none⟩)] 98)).alloc (.cells #[.int .i64 x.op, .int .i64 x.a, .int .i64 x.b, .int .i64 x.n] 29)) U R mb ib p S X fb c n w.heap.size x := by
 have hu : Upd [] w ((w.alloc (.cells #[.pointer (some ⟨fb, n * 4, none⟩)] 98)).alloc (.cells #[.int .i64 x.op, .int .i64 x.a, .int .i64 x.b, .int .i64 x.n] 29)) := ((Upd.refl [] w).alloc _).alloc _
 have hB := heap_alloc_new (w.alloc (.cells #[.pointer (some ⟨fb, n * 4, none⟩)] 98)) (.cells #[.int .i64 x.op, .int .i64 x.a, .int .i64 x.b, .int .i64 x.n] 29)
 rw [show (w.alloc (.cells #[.pointer (some ⟨fb, n * 4, none⟩)] 98)).heap.size = w.heap.size + 1 by simp] at hB
 exact ⟨h.new hu, hfv, ((Upd.refl [] _).alloc _).heap (heap_alloc_new w _) (by simp), hB, hu.mono (by simp)⟩
theorem PlS.fbR (h : PlS B w W U R mb ib p S X fb c n cb x) : fb ∈ R ++ news w W := h.m.own fb (.inl (by rw [h.fv]; rfl))
theorem PlS.fty (h : PlS B w W U R mb ib p S X fb c n cb x) : ∃ q, W.heap[fb]? = some (.cells q 82) := by
 have hr := h.m.frow
 exact own_typ hr (b := fb) (by rw [h.fv]; rfl)
theorem PlS.ne (h : PlS B w W U R mb ib p S X fb c n cb x) : cb ≠ fb ∧ cb + 1 ≠ fb := by
 obtain ⟨q, hq⟩ := h.fty
 exact ⟨fun e => by have := h.cbx; rw [e] at this; exact absurd (typ_ne this hq) (by decide), fun e => by have := h.xbx; rw [e] at this; exact absurd (typ_ne this hq) (by decide)⟩
theorem vl_new (t : TypeId) (w : World) (l : List Vl) : VlV (w.alloc (.cells (vcells l).toArray t)) (.slice (some ⟨w.heap.size, 0, none⟩) l.length l.length) w.heap.size 0 l := by
 refine ⟨⟨_, _, rfl, fun _ => rfl⟩, fun i hi => ?_⟩
 obtain ⟨g0, g1⟩ := vcells_get l i hi
 have h0 := row_new t w l _ _ g0
 have h1 := row_new t w l _ _ g1
 rw [Addr.add_lit, Nat.zero_add] at h0 h1
 rw [Nat.zero_add]
 exact ⟨h0, h1⟩
/-- top. -/
theorem PlS.top (h : PlS B w W U R mb ib p S X fb c n cb x) (hf : S.frs = f :: below) (hn : below.length = n) (i : Nat) (hi : i < f.stk.length) :
  Calls Tryd.prog 44 #[.int .i64 i, .pointer (some ⟨cb, 0, none⟩)] W fun e W' => e = .returned (.agg #[.bool (tp f.stk i).ref, .int .i64 (tp f.stk i).n]) ∧ Hid (PlS B w W' U R mb ib p S X fb c n cb x) ∧ Hid (Upd [] W W') := by
 subst hn
 exact (mtop_any i h.m hf h.fv h.cbx hi).mono fun e W' ⟨h1, h2⟩ => ⟨h1, h.keep h2, h2⟩
/-- put, of nothing. -/
theorem PlS.put0 (h : PlS B w W U R mb ib p S X fb c n cb x) (hf : S.frs = f :: below) (hn : below.length = n) (k : Nat) (hk : k ≤ f.stk.length) (hl : f.stk.length ≤ 1000) :
  Calls Tryd.prog 45 #[.int .i64 k, .slice none 0 0, .pointer (some ⟨cb, 0, none⟩)] W fun e W' => e = .returned (.tuple #[]) ∧ ∃ gs', Hid (PlS B w W' U R mb ib p { S with frs := { f with stk := cutV f.stk k } :: below } { X with gs := gs' } fb c n cb x) := by
 subst hn
 refine (mput_none k h.m hf h.fv h.cbx hk hl).mono fun e W' ⟨h1, ⟨gs', h2⟩, h3⟩ => ⟨h1, gs', ?_⟩
 obtain ⟨n1, n2⟩ := h.ne
 exact h.turn h2 h3 (fun b hb => by rw [List.mem_singleton] at hb; rw [hb]; exact h.fbR) rfl (by simpa using n1) (by simpa using n2)
/-- put, of values that were just laid down. -/
theorem PlS.putL (h : PlS B w W U R mb ib p S X fb c n cb x) (hf : S.frs = f :: below) (hn : below.length = n) (k : Nat) (hk : k ≤ f.stk.length) (hl : f.stk.length ≤ 1000) (l : List Vl) (hl0 : l ≠ []) (hl1 : l.length ≤ 1000) :
  Calls Tryd.prog 45 #[.int .i64 k, .slice (some ⟨W.heap.size, 0, none⟩) l.length l.length, .pointer (some ⟨cb, 0, none⟩)] (W.alloc (.cells (vcells l).toArray 85)) fun e W' => e = .returned (.tuple #[]) ∧ ∃ gs', Hid (PlS B w W' U R mb ib p { S with frs := { f with stk := cutV f.stk k ++ l } :: below } { X with gs := gs' } fb c n cb x) := by
 subst hn
 have h1 := h.keep ((Upd.refl [] W).alloc (.cells (vcells l).toArray 85))
 refine (mput_some k l hl0 hl1 (vl_new _ W l) h1.m hf h1.fv h1.cbx hk hl).mono fun e W' ⟨h2, ⟨gs', h3⟩, h4⟩ => ⟨h2, gs', ?_⟩
 obtain ⟨n1, n2⟩ := h1.ne
 exact h1.turn h3 h4 (fun b hb => by rw [List.mem_singleton] at hb; rw [hb]; exact h1.fbR) rfl (by simpa using n1) (by simpa using n2)
theorem PlS.put1 (h : PlS B w W U R mb ib p S X fb c n cb x) (hf : S.frs = f :: below) (hn : below.length = n) (k : Nat) (hk : k ≤ f.stk.length) (hl : f.stk.length ≤ 1000) (v : Vl) :
  Calls Tryd.prog 45 #[.int .i64 k, .slice (some ⟨W.heap.size, 0, none⟩) 1 1, .pointer (some ⟨cb, 0, none⟩)] (W.alloc (.cells #[.bool v.ref, .int .i64 v.n] 85)) fun e W' => e = .returned (.tuple #[]) ∧ ∃ gs', Hid (PlS B w W' U R mb ib p { S with frs := { f with stk := cutV f.stk k ++ [v] } :: below } { X with gs := gs' } fb c n cb x) := h.putL hf hn k hk hl [v] (by simp) (by simp)
theorem PlS.put2 (h : PlS B w W U R mb ib p S X fb c n cb x) (hf : S.frs = f :: below) (hn : below.length = n) (k : Nat) (hk : k ≤ f.stk.length) (hl : f.stk.length ≤ 1000) (v u : Vl) :
  Calls Tryd.prog 45 #[.int .i64 k, .slice (some ⟨W.heap.size, 0, none⟩) 2 2, .pointer (some ⟨cb, 0, none⟩)] (W.alloc (.cells #[.bool v.ref, .int .i64 v.n, .bool u.ref, .int .i64 u.n] 85)) fun e W' => e = .returned (.tuple #[]) ∧ ∃ gs', Hid (PlS B w W' U R mb ib p { S with frs := { f with stk := cutV f.stk k ++ [v, u] } :: below } { X with gs := gs' } fb c n cb x) := h.putL hf hn k hk hl [v, u] (by simp) (by simp)
/-- What plain has done. -/
def PlEnd (B : Nat) (w w' : World) (U R : List Nat) (mb ib : Nat) (p : Prg) (X : MX) (S' : Mc) : Prop := (∃ X', MAt B w' (U ++ news w w') (R ++ news w w') mb ib p S' X' ∧ X'.fv = X.fv) ∧ Upd R w w'
theorem PlS.fin {X0 : MX} (h : PlS B w W U R mb ib p S X fb c n cb x) (h0 : X0.fv = .slice (some ⟨fb, 0, none⟩) (n + 1) c) : PlEnd B w W U R mb ib p X0 S := ⟨⟨X, h.m, h.fv.trans h0.symm⟩, h.upd⟩
end
set_option maxRecDepth 100000 in
theorem mnum_any (n : Int) (w : World) : Calls Tryd.prog 46 #[.int .i64 n] w fun e w' => e = .returned (.agg #[.bool false, .int .i64 n]) ∧ Upd [] w w' := by
 have HU := Lib.hid ((Upd.refl [] w).alloc (.cells #[.bool false, .int .i64 n] 85))
 go_enter Tryd.func46, Tryd.ntmps46
 go_wp2_with fail
 exact bodyPost_ret (v := .agg #[.bool false, .int .i64 n]) (by simp [results, Tryd.results46, go_sem]) rfl ⟨rfl, HU.out⟩
end Go.Proofs.YtojobkhidlfeoaaDoor

/-! model: Machine.plain, kind by kind. -/
namespace Go.Proofs.YtojobkhidlfeoaaDoor
open Go.RowKit

section
theorem val_n (w : World) (r : Bool) (n : Int) : (Instr.field 85 (.agg #[.bool r, .int .i64 n]) 1).run Tryd.prog w = .ok (.int .i64 n) w := by kernel_rfl
variable {B : Nat} {w : World} {U R : List Nat} {mb ib : Nat} {p : Prg} {S : Mc} {X : MX} {f : Fm} {below : List Fm} {fb c : Nat}
theorem Tryd.mzero82 (w : World) : Calls Tryd.prog 30 #[.int .u8 82] w fun e w' => e = .returned (.agg #[.bool true, .int .i64 (-1)]) ∧ Upd [] w w' := mzero_any 82 w

set_option maxRecDepth 100000 in
set_option maxHeartbeats 2000000 in
theorem mplain_1 {xa xb xn : Int} (h : MAt B w U R mb ib p S X) (hf : S.frs = f :: below) (hfv : X.fv = .slice (some ⟨fb, 0, none⟩) (below.length + 1) c) (hn : f.stk.length ≤ 1000) :
  Calls Tryd.prog 34 #[.pointer (some ⟨mb, 0, none⟩), .pointer (some ⟨fb, below.length * 4, none⟩), .agg #[.int .i64 1, .int .i64 xa, .int .i64 xb, .int .i64 xn]] w fun e w' => e = .returned (.int .i64 0) ∧ PlEnd B w w' U R mb ib p X { S with frs := { f with stk := cutV f.stk 0 ++ [vi xn] } :: below } := by
 have H1 := Lib.hid (PlS.start (n := below.length) h hfv ⟨1, xa, xb, xn⟩)
 have HF := Lib.hid hf
 have HFV := Lib.hid hfv
 have hvn := val_n
 have HH := Lib.hid h
 clear h hf hfv
 go_enter Tryd.func34, Tryd.ntmps34
 go_upto_region 10 with fail
 generalize (w.alloc (.cells #[.pointer (some ⟨fb, below.length * 4, none⟩)] 98)).alloc (.cells #[.int .i64 1, .int .i64 xa, .int .i64 xb, .int .i64 xn] 29) = w1 at H1 ⊢
 generalize w.heap.size = cb at H1 ⊢
 have x3 : w1.cell? ⟨cb + 1, 3, none⟩ = some (.int .i64 xn) := by rw [cell_of H1.out.xbx]; rfl
 go_wp2_with fail
 refine (mnum_any xn w1).mono ?_
 rintro e w2 ⟨rfl, hu2⟩
 have H2 := Lib.hid (H1.out.keep hu2)
 clear hu2 H1 x3
 go_wp2_with fail
 refine (H2.out.put1 HF.out rfl 0 (by omega) hn (vi xn)).mono ?_
 rintro e w3 ⟨rfl, gs', H3⟩
 go_wp2_with fail
 go_ret
 exact ⟨rfl, H3.out.fin HFV.out⟩

set_option maxRecDepth 100000 in
set_option maxHeartbeats 2000000 in
theorem mplain_2 {xa xb xn : Int} (h : MAt B w U R mb ib p S X) (hf : S.frs = f :: below) (hfv : X.fv = .slice (some ⟨fb, 0, none⟩) (below.length + 1) c) (hn : f.stk.length ≤ 1000) :
  Calls Tryd.prog 34 #[.pointer (some ⟨mb, 0, none⟩), .pointer (some ⟨fb, below.length * 4, none⟩), .agg #[.int .i64 2, .int .i64 xa, .int .i64 xb, .int .i64 xn]] w fun e w' => e = .returned (.int .i64 0) ∧ PlEnd B w w' U R mb ib p X { S with frs := { f with stk := cutV f.stk 0 ++ [vr (-1)] } :: below } := by
 have H1 := Lib.hid (PlS.start (n := below.length) h hfv ⟨2, xa, xb, xn⟩)
 have HF := Lib.hid hf
 have HFV := Lib.hid hfv
 have hvn := val_n
 have HH := Lib.hid h
 clear h hf hfv
 go_enter Tryd.func34, Tryd.ntmps34
 go_upto_region 12 with fail
 generalize (w.alloc (.cells #[.pointer (some ⟨fb, below.length * 4, none⟩)] 98)).alloc (.cells #[.int .i64 2, .int .i64 xa, .int .i64 xb, .int .i64 xn] 29) = w1 at H1 ⊢
 generalize w.heap.size = cb at H1 ⊢
 go_wp2_with fail
 refine (Tryd.mzero82 w1).mono ?_
 rintro e w2 ⟨rfl, hu2⟩
 have H2 := Lib.hid (H1.out.keep hu2)
 clear hu2 H1
 go_wp2_with fail
 refine (H2.out.put1 HF.out rfl 0 (by omega) hn (vr (-1))).mono ?_
 rintro e w3 ⟨rfl, gs', H3⟩
 go_wp2_with fail
 go_ret
 exact ⟨rfl, H3.out.fin HFV.out⟩

set_option maxRecDepth 100000 in
set_option maxHeartbeats 2000000 in
theorem mplain_5 {xa xb xn : Int} (h : MAt B w U R mb ib p S X) (hf : S.frs = f :: below) (hfv : X.fv = .slice (some ⟨fb, 0, none⟩) (below.length + 1) c) (hn : f.stk.length ≤ 1000) (hl : 1 ≤ f.stk.length) :
  Calls Tryd.prog 34 #[.pointer (some ⟨mb, 0, none⟩), .pointer (some ⟨fb, below.length * 4, none⟩), .agg #[.int .i64 5, .int .i64 xa, .int .i64 xb, .int .i64 xn]] w fun e w' => e = .returned (.int .i64 0) ∧ PlEnd B w w' U R mb ib p X { S with frs := { f with stk := cutV f.stk 0 ++ [tp f.stk 0] } :: below } := by
 have H1 := Lib.hid (PlS.start (n := below.length) h hfv ⟨5, xa, xb, xn⟩)
 have HF := Lib.hid hf
 have HFV := Lib.hid hfv
 have hvn := val_n
 have HH := Lib.hid h
 clear h hf hfv
 obtain ⟨tr, tn, htv⟩ : ∃ tr tn, tp f.stk 0 = ⟨tr, tn⟩ := ⟨_, _, rfl⟩
 rw [htv]
 have HTV := Lib.hid htv
 clear htv
 go_enter Tryd.func34, Tryd.ntmps34
 go_upto_region 19 with fail
 generalize (w.alloc (.cells #[.pointer (some ⟨fb, below.length * 4, none⟩)] 98)).alloc (.cells #[.int .i64 5, .int .i64 xa, .int .i64 xb, .int .i64 xn] 29) = w1 at H1 ⊢
 generalize w.heap.size = cb at H1 ⊢
 go_wp2_with fail
 refine (H1.out.top HF.out rfl 0 (by omega)).mono ?_
 rintro e w2 ⟨he, H2, _⟩
 rw [HTV.out] at he
 subst he
 clear H1
 have HP := Lib.hid (H2.out.put1 HF.out rfl 0 (by omega) hn ⟨tr, tn⟩)
 go_wp2_with fail
 refine HP.out.mono ?_
 rintro e w3 ⟨rfl, gs', H3⟩
 go_wp2_with fail
 go_ret
 exact ⟨rfl, H3.out.fin HFV.out⟩

set_option maxRecDepth 100000 in
set_option maxHeartbeats 2000000 in
theorem mplain_6 {xa xb xn : Int} (h : MAt B w U R mb ib p S X) (hf : S.frs = f :: below) (hfv : X.fv = .slice (some ⟨fb, 0, none⟩) (below.length + 1) c) (hn : f.stk.length ≤ 1000) (hl : 1 ≤ f.stk.length) :
  Calls Tryd.prog 34 #[.pointer (some ⟨mb, 0, none⟩), .pointer (some ⟨fb, below.length * 4, none⟩), .agg #[.int .i64 6, .int .i64 xa, .int .i64 xb, .int .i64 xn]] w fun e w' => e = .returned (.int .i64 0) ∧ PlEnd B w w' U R mb ib p X { S with frs := { f with stk := cutV f.stk 1 } :: below } := by
 have H1 := Lib.hid (PlS.start (n := below.length) h hfv ⟨6, xa, xb, xn⟩)
 have HF := Lib.hid hf
 have HFV := Lib.hid hfv
 have hvn := val_n
 have HH := Lib.hid h
 clear h hf hfv
 go_enter Tryd.func34, Tryd.ntmps34
 go_upto_region 21 with fail
 generalize (w.alloc (.cells #[.pointer (some ⟨fb, below.length * 4, none⟩)] 98)).alloc (.cells #[.int .i64 6, .int .i64 xa, .int .i64 xb, .int .i64 xn] 29) = w1 at H1 ⊢
 generalize w.heap.size = cb at H1 ⊢
 go_wp2_with fail
 refine (H1.out.put0 HF.out rfl 1 hl hn).mono ?_
 rintro e w3 ⟨rfl, gs', H3⟩
 go_wp2_with fail
 go_ret
 exact ⟨rfl, H3.out.fin HFV.out⟩

set_option maxRecDepth 100000 in
set_option maxHeartbeats 2000000 in
theorem mplain_7 {xa xb xn : Int} (h : MAt B w U R mb ib p S X) (hf : S.frs = f :: below) (hfv : X.fv = .slice (some ⟨fb, 0, none⟩) (below.length + 1) c) (hn : f.stk.length ≤ 1000) (hl : 2 ≤ f.stk.length) :
  Calls Tryd.prog 34 #[.pointer (some ⟨mb, 0, none⟩), .pointer (some ⟨fb, below.length * 4, none⟩), .agg #[.int .i64 7, .int .i64 xa, .int .i64 xb, .int .i64 xn]] w fun e w' => e = .returned (.int .i64 0) ∧ PlEnd B w w' U R mb ib p X { S with frs := { f with stk := cutV f.stk 2 ++ [tp f.stk 0, tp f.stk 1] } :: below } := by
 have H1 := Lib.hid (PlS.start (n := below.length) h hfv ⟨7, xa, xb, xn⟩)
 have HF := Lib.hid hf
 have HFV := Lib.hid hfv
 have hvn := val_n
 have HH := Lib.hid h
 clear h hf hfv
 obtain ⟨tr, tn, htv⟩ : ∃ tr tn, tp f.stk 0 = ⟨tr, tn⟩ := ⟨_, _, rfl⟩
 rw [htv]
 have HTV := Lib.hid htv
 clear htv
 obtain ⟨ur, un, htu⟩ : ∃ ur un, tp f.stk 1 = ⟨ur, un⟩ := ⟨_, _, rfl⟩
 rw [htu]
 have HTU := Lib.hid htu
 clear htu
 go_enter Tryd.func34, Tryd.ntmps34
 go_upto_region 23 with fail
 generalize (w.alloc (.cells #[.pointer (some ⟨fb, below.length * 4, none⟩)] 98)).alloc (.cells #[.int .i64 7, .int .i64 xa, .int .i64 xb, .int .i64 xn] 29) = w1 at H1 ⊢
 generalize w.heap.size = cb at H1 ⊢
 go_wp2_with fail
 refine (H1.out.top HF.out rfl 0 (by omega)).mono ?_
 rintro e w2 ⟨he, H2, _⟩
 rw [HTV.out] at he
 subst he
 clear H1
 go_wp2_with fail
 refine (H2.out.top HF.out rfl 1 (by omega)).mono ?_
 rintro e w3 ⟨he, H3, _⟩
 rw [HTU.out] at he
 subst he
 clear H2
 have HP := Lib.hid (H3.out.put2 HF.out rfl 2 hl hn ⟨tr, tn⟩ ⟨ur, un⟩)
 go_wp2_with fail
 refine HP.out.mono ?_
 rintro e w4 ⟨rfl, gs', H4⟩
 go_wp2_with fail
 go_ret
 exact ⟨rfl, H4.out.fin HFV.out⟩

set_option maxRecDepth 100000 in
set_option maxHeartbeats 2000000 in
theorem mplain_21 {xa xb xn : Int} (h : MAt B w U R mb ib p S X) (hf : S.frs = f :: below) (hfv : X.fv = .slice (some ⟨fb, 0, none⟩) (below.length + 1) c) (hn : f.stk.length ≤ 1000) (hl : 2 ≤ f.stk.length) :
  Calls Tryd.prog 34 #[.pointer (some ⟨mb, 0, none⟩), .pointer (some ⟨fb, below.length * 4, none⟩), .agg #[.int .i64 21, .int .i64 xa, .int .i64 xb, .int .i64 xn]] w fun e w' => e = .returned (.int .i64 0) ∧ PlEnd B w w' U R mb ib p X { S with frs := { f with stk := cutV f.stk 2 ++ [vi (if (tp f.stk 0).n = (tp f.stk 1).n then 1 else 0)] } :: below } := by
 have H1 := Lib.hid (PlS.start (n := below.length) h hfv ⟨21, xa, xb, xn⟩)
 have HF := Lib.hid hf
 have HFV := Lib.hid hfv
 have hvn := val_n
 have HH := Lib.hid h
 clear h hf hfv
 obtain ⟨tr, tn, htv⟩ : ∃ tr tn, tp f.stk 0 = ⟨tr, tn⟩ := ⟨_, _, rfl⟩
 rw [htv]
 have HTV := Lib.hid htv
 clear htv
 obtain ⟨ur, un, htu⟩ : ∃ ur un, tp f.stk 1 = ⟨ur, un⟩ := ⟨_, _, rfl⟩
 rw [htu]
 have HTU := Lib.hid htu
 clear htu
 obtain ⟨bb, hbb⟩ : ∃ bb, (tn == un) = bb := ⟨_, rfl⟩
 have hif : (if (⟨tr, tn⟩ : Vl).n = (⟨ur, un⟩ : Vl).n then (1 : Int) else 0) = if bb then 1 else 0 := by
  rw [← hbb]
  simp
 obtain ⟨ib, hib⟩ : ∃ ib, (if bb then (1 : Int) else 0) = ib := ⟨_, rfl⟩
 rw [hif, hib]
 have HIB := Lib.hid hib
 clear hif hib
 go_enter Tryd.func34, Tryd.ntmps34
 go_upto_region 28 with fail
 generalize (w.alloc (.cells #[.pointer (some ⟨fb, below.length * 4, none⟩)] 98)).alloc (.cells #[.int .i64 21, .int .i64 xa, .int .i64 xb, .int .i64 xn] 29) = w1 at H1 ⊢
 generalize w.heap.size = cb at H1 ⊢
 go_wp2_with fail
 refine (H1.out.top HF.out rfl 0 (by omega)).mono ?_
 rintro e w2 ⟨he, H2, _⟩
 rw [HTV.out] at he
 subst he
 clear H1
 go_wp2_with fail
 refine (H2.out.top HF.out rfl 1 (by omega)).mono ?_
 rintro e w3 ⟨he, H3, _⟩
 rw [HTU.out] at he
 subst he
 clear H2
 go_wp2_with fail
 refine (mtruth_any bb w3).mono ?_
 rintro e w4 ⟨he, rfl⟩
 rw [HIB.out] at he
 subst he
 go_wp2_with fail
 refine (mnum_any ib w3).mono ?_
 rintro e w5 ⟨rfl, hu5⟩
 have H5 := Lib.hid (H3.out.keep hu5)
 clear hu5 H3
 have HP := Lib.hid (H5.out.put1 HF.out rfl 2 hl hn (vi ib))
 go_wp2_with fail
 refine HP.out.mono ?_
 rintro e w6 ⟨rfl, gs', H6⟩
 go_wp2_with fail
 go_ret
 exact ⟨rfl, H6.out.fin HFV.out⟩

end
end Go.Proofs.YtojobkhidlfeoaaDoor

/-! model: Machine.plain, kind by kind: locals, arithmetic. -/
namespace Go.Proofs.YtojobkhidlfeoaaDoor
open Go.RowKit

section
variable {B : Nat} {w W W' : World} {U R : List Nat} {mb ib : Nat} {p : Prg} {S : Mc} {X : MX} {f : Fm} {below : List Fm} {fb c n cb : Nat} {x : Ins}
/-- The machine's own blocks were written, no block was made. -/
theorem PlS.turn0 (h : PlS B w W U R mb ib p S X fb c n cb x) {S' : Mc} {X' : MX} {T : List Nat} (h1 : MAt B W' (U ++ news w W) (R ++ news w W) mb ib p S' X') (hz : W'.heap.size = W.heap.size) (hu : Upd T W W') (hT : ∀ b ∈ T, b ∈ R ++ news w W) (hfv : X'.fv = X.fv) (hcb : cb ∉ T) (hxb : cb + 1 ∉ T) : PlS B w W' U R mb ib p S' X' fb c n cb x := by
 refine h.turn (T := T) ?_ hu hT hfv hcb hxb
 rw [news_same hz, news_self, List.append_nil, List.append_nil]
 exact h1
theorem PlS.tyne (h : PlS B w W U R mb ib p S X fb c n cb x) {b : Nat} {t : TypeId} (hb : ∃ q, W.heap[b]? = some (.cells q t)) (h1 : t ≠ 98) (h2 : t ≠ 29) : cb ∉ [b] ∧ cb + 1 ∉ [b] := by
 obtain ⟨q, hq⟩ := hb
 refine ⟨fun hm => ?_, fun hm => ?_⟩
 ·rw [List.mem_singleton] at hm
  subst hm
  exact h1 (typ_ne hq h.cbx)
 ·rw [List.mem_singleton] at hm
  subst hm
  exact h2 (typ_ne hq h.xbx)
/-- A local. -/
theorem PlS.local (h : PlS B w W U R mb ib p S X fb c n cb x) (hf : S.frs = f :: below) (hn : below.length = n) (i : Nat) (hi : i < f.loc.length) : ∃ lb lc,
  (W.cell? ⟨cb, 0, none⟩ = some (.pointer (some ⟨fb, n * 4, none⟩)) ∧ W.cell? ⟨fb, n * 4 + 2, none⟩ = some (.slice (some ⟨lb, 0, none⟩) f.loc.length lc)) ∧ (W.cell? ⟨lb, i * 2, none⟩ = some (.bool (f.loc.getD i default).ref) ∧ W.cell? ⟨lb, i * 2 + 1, none⟩ = some (.int .i64 (f.loc.getD i default).n)) ∧ (∀ k, W.frozen? ⟨lb, k, none⟩ = false) ∧
  ∀ v : Vl, Hid (PlS B w ((W.setCell ⟨lb, i * 2, none⟩ (.bool v.ref)).setCell ⟨lb, i * 2 + 1, none⟩ (.int .i64 v.n)) U R mb ib p { S with frs := { f with loc := f.loc.set i v } :: below } X fb c n cb x) := by
 subst hn
 obtain ⟨g, gb, fb2, c2, hg, hgl, hfv2, _, _, hR, hfq, _, _, c2', c3⟩ := h.m.top hf
 rw [h.fv] at hfv2
 injection hfv2 with e1 _ e3
 injection e1 with e1
 injection e1 with e1
 subst e1 e3
 have hrow := h.m.loc.row 0 (by rw [hf]; simp)
 rw [hf, hg] at hrow
 have hrow2 : OwnV 85 W B g.lv f.loc := hrow
 obtain ⟨lb, lc, hlv, x0, x1, z0, z1⟩ := hrow2.cell hi
 have hlb : lb ∈ blks (X.gs.map FmV.lv) := mem_blks (i := 0) (by rw [hg]; simp) (by rw [hg]; show g.lv.ownBlock = _; rw [hlv]; rfl)
 obtain ⟨q, hq⟩ := h.m.loc.typ lb hlb
 have hcb : W.cell? ⟨cb, 0, none⟩ = some (.pointer (some ⟨fb, below.length * 4, none⟩)) := by rw [cell_of h.cbx]; rfl
 rw [hlv] at c2'
 refine ⟨lb, lc, ⟨hcb, c2'⟩, ⟨x0, x1⟩, fun k => froz_of hq k, fun v => ?_⟩
 obtain ⟨h1, h2⟩ := h.m.setLoc v hf hg hi hlv
 obtain ⟨n1, n2⟩ := h.tyne ⟨q, hq⟩ (by decide) (by decide)
 exact h.turn0 h1 (by rw [size_set, size_set]) h2 (fun b hb => by rw [List.mem_singleton] at hb; rw [hb]; exact h.m.own lb (.inr (.inr (.inr (.inl hlb))))) rfl n1 n2
end
section
variable {B : Nat} {w : World} {U R : List Nat} {mb ib : Nat} {p : Prg} {S : Mc} {X : MX} {f : Fm} {below : List Fm} {fb c : Nat}

set_option maxRecDepth 100000 in
set_option maxHeartbeats 4000000 in
theorem mplain_3 {xb xn : Int} {i : Nat} (h : MAt B w U R mb ib p S X) (hf : S.frs = f :: below) (hfv : X.fv = .slice (some ⟨fb, 0, none⟩) (below.length + 1) c) (hn : f.stk.length ≤ 1000) (hi : i < f.loc.length) :
  Calls Tryd.prog 34 #[.pointer (some ⟨mb, 0, none⟩), .pointer (some ⟨fb, below.length * 4, none⟩), .agg #[.int .i64 3, .int .i64 i, .int .i64 xb, .int .i64 xn]] w fun e w' => e = .returned (.int .i64 0) ∧ PlEnd B w w' U R mb ib p X { S with frs := { f with stk := cutV f.stk 0 ++ [f.loc.getD i default] } :: below } := by
 have H1 := Lib.hid (PlS.start (n := below.length) h hfv ⟨3, i, xb, xn⟩)
 have HF := Lib.hid hf
 have HFV := Lib.hid hfv
 have hvn := val_n
 have HH := Lib.hid h
 clear h hf hfv
 obtain ⟨vr, vn, hv⟩ : ∃ vr vn, f.loc.getD i default = ⟨vr, vn⟩ := ⟨_, _, rfl⟩
 rw [hv]
 have HV := Lib.hid hv
 clear hv
 go_enter Tryd.func34, Tryd.ntmps34
 go_upto_region 14 with fail
 generalize (w.alloc (.cells #[.pointer (some ⟨fb, below.length * 4, none⟩)] 98)).alloc (.cells #[.int .i64 3, .int .i64 i, .int .i64 xb, .int .i64 xn] 29) = w1 at H1 ⊢
 generalize w.heap.size = cb at H1 ⊢
 have HX := Lib.hid H1.out.xbx
 have x1 : w1.cell? ⟨cb + 1, 1, none⟩ = some (.int .i64 i) := by rw [cell_of HX.out]; rfl
 obtain ⟨lb, lc, ⟨l0, l1⟩, ⟨l2, l3⟩, _, _⟩ := H1.out.local HF.out rfl i hi
 rw [HV.out] at l2 l3
 have k0 : w1.cell? ⟨cb, 0, none⟩ = some (.pointer (some ⟨fb, below.length * 4, none⟩)) ∧ w1.cell? ⟨fb, below.length * 4 + 2, none⟩ = some (.slice (some ⟨lb, 0, none⟩) f.loc.length lc) ∧ w1.cell? ⟨lb, i * 2, none⟩ = some (.bool vr) ∧ w1.cell? ⟨lb, i * 2 + 1, none⟩ = some (.int .i64 vn) ∧ w1.cell? ⟨cb + 1, 1, none⟩ = some (.int .i64 i) := ⟨l0, l1, l2, l3, x1⟩
 have k1 : ∀ o, (w1.drew.alloc o).cell? ⟨cb, 0, none⟩ = some (.pointer (some ⟨fb, below.length * 4, none⟩)) ∧ (w1.drew.alloc o).cell? ⟨fb, below.length * 4 + 2, none⟩ = some (.slice (some ⟨lb, 0, none⟩) f.loc.length lc) ∧ (w1.drew.alloc o).cell? ⟨lb, i * 2, none⟩ = some (.bool vr) ∧ (w1.drew.alloc o).cell? ⟨lb, i * 2 + 1, none⟩ = some (.int .i64 vn) ∧ (w1.drew.alloc o).cell? ⟨cb + 1, 1, none⟩ = some (.int .i64 i) := fun o => by
  have hx := ((Upd.refl [] w1).drew).alloc o
  exact ⟨hx.cell l0 (by simp), hx.cell l1 (by simp), hx.cell l2 (by simp), hx.cell l3 (by simp), hx.cell x1 (by simp)⟩
 have HP := Lib.hid ((H1.out.keep ((Upd.refl [] w1).drew)).put1 HF.out rfl 0 (by omega) hn ⟨vr, vn⟩)
 clear l0 l1 l2 l3 x1
 have hii : (i : Int) < (f.loc.length : Int) := by omega
 have hi0 : (0 : Int) ≤ (i : Int) := by omega
 refine wp_region_noPanic ?_
 refine wp_region_L (S := fun w' => w'.cell? ⟨cb, 0, none⟩ = some (.pointer (some ⟨fb, below.length * 4, none⟩)) ∧ w'.cell? ⟨fb, below.length * 4 + 2, none⟩ = some (.slice (some ⟨lb, 0, none⟩) f.loc.length lc) ∧ w'.cell? ⟨lb, i * 2, none⟩ = some (.bool vr) ∧ w'.cell? ⟨lb, i * 2 + 1, none⟩ = some (.int .i64 vn) ∧ w'.cell? ⟨cb + 1, 1, none⟩ = some (.int .i64 i)) 10 (by kernel_rfl) ?_ (fun hHeld => ?_)
 ·first | exact k0 | exact k1 _
 refine Nx.start [(0, [10]), (1, [2, 3, 4, 7, 8, 9, 10]), (2, [3, 4, 7, 8, 9, 10]), (3, [4, 7, 8, 9, 10]), (4, [7, 8, 9, 10]), (5, [6, 7, 8, 9, 10]), (6, [7, 8, 9, 10]), (7, [8, 9, 10]), (8, [9, 10])] ?_
 iterate 9
  refine Nx.p (oi := ?_) (v := ?_) ?_ (by kernel_rfl) (fun _ _ _ h => h) ?_ ?_ hHeld ?_
  rotate_left 2
  ·simp only [List.getElem?_toArray, List.getElem?_cons_zero, List.getElem?_cons_succ]; rfl
  ·rfl
  ·intro _ hSw; (try dsimp only at hSw); go_simp <;> with_reducible rfl
  (try simp only [Act.put, List.setIfInBounds_toArray, List.set_cons_zero, List.set_cons_succ])
 refine Nx.stop ?_
 refine wpAnyL_one (i := 9) (o := ?_) (by kernel_rfl) ?_ (fun K hK => ?_)
 rotate_left 1
 ·simp only [List.getElem?_toArray, List.getElem?_cons_zero, List.getElem?_cons_succ]; rfl
 clear hHeld
 go_simp
 refine hK.out _ _ ?_ (fun hHeld => ?_)
 ·first | exact k0 | exact k1 _
 clear hK K
 (try simp only [Act.put, List.setIfInBounds_toArray, List.set_cons_zero, List.set_cons_succ])
 refine wpAnyL_last (o := ?_) (by kernel_rfl) ?_ (fun K hK => ?_)
 rotate_left 1
 ·simp only [List.getElem?_toArray, List.getElem?_cons_zero, List.getElem?_cons_succ]; rfl
 clear hHeld
 go_simp
 (go_at_call 45; refine (HP.out).mono ?_; rintro e w3 ⟨rfl, gs', H3⟩)
 try go_wp2_with fail
 refine hK.out _ _ ?_
 clear hK K
 (try simp only [Act.put, List.setIfInBounds_toArray, List.set_cons_zero, List.set_cons_succ])
 refine wpAnyL_done (by kernel_rfl) ?_ _
 refine NoPanic.normal ?_
 go_wp2_with fail
 go_ret
 exact ⟨rfl, H3.out.fin HFV.out⟩

set_option maxRecDepth 100000 in
set_option maxHeartbeats 4000000 in
theorem mplain_4 {xb xn : Int} {i : Nat} (h : MAt B w U R mb ib p S X) (hf : S.frs = f :: below) (hfv : X.fv = .slice (some ⟨fb, 0, none⟩) (below.length + 1) c) (hn : f.stk.length ≤ 1000) (hi : i < f.loc.length) (hl : 1 ≤ f.stk.length) :
  Calls Tryd.prog 34 #[.pointer (some ⟨mb, 0, none⟩), .pointer (some ⟨fb, below.length * 4, none⟩), .agg #[.int .i64 4, .int .i64 i, .int .i64 xb, .int .i64 xn]] w fun e w' => e = .returned (.int .i64 0) ∧ PlEnd B w w' U R mb ib p X { S with frs := { f with loc := f.loc.set i (tp f.stk 0), stk := cutV f.stk 1 } :: below } := by
 have H1 := Lib.hid (PlS.start (n := below.length) h hfv ⟨4, i, xb, xn⟩)
 have HF := Lib.hid hf
 have HFV := Lib.hid hfv
 have hvn := val_n
 have HH := Lib.hid h
 clear h hf hfv
 obtain ⟨tr, tn, htv⟩ : ∃ tr tn, tp f.stk 0 = ⟨tr, tn⟩ := ⟨_, _, rfl⟩
 rw [htv]
 have HTV := Lib.hid htv
 clear htv
 go_enter Tryd.func34, Tryd.ntmps34
 go_upto_region 16 with fail
 generalize (w.alloc (.cells #[.pointer (some ⟨fb, below.length * 4, none⟩)] 98)).alloc (.cells #[.int .i64 4, .int .i64 i, .int .i64 xb, .int .i64 xn] 29) = w1 at H1 ⊢
 generalize w.heap.size = cb at H1 ⊢
 have HX := Lib.hid H1.out.xbx
 have x1 : w1.cell? ⟨cb + 1, 1, none⟩ = some (.int .i64 i) := by rw [cell_of HX.out]; rfl
 obtain ⟨lb, lc, ⟨l0, l1⟩, _, _, _⟩ := H1.out.local HF.out rfl i hi
 have k0 : w1.cell? ⟨cb, 0, none⟩ = some (.pointer (some ⟨fb, below.length * 4, none⟩)) ∧ w1.cell? ⟨fb, below.length * 4 + 2, none⟩ = some (.slice (some ⟨lb, 0, none⟩) f.loc.length lc) ∧ w1.cell? ⟨cb + 1, 1, none⟩ = some (.int .i64 i) := ⟨l0, l1, x1⟩
 have HT := Lib.hid ((H1.out.keep ((Upd.refl [] w1).drew)).top HF.out rfl 0 (by omega))
 have HK : Hid (∀ W, Hid (PlS B w W U R mb ib p S X fb c below.length cb ⟨4, i, xb, xn⟩) → Hid (Upd [] w1.drew W) → (W.cell? ⟨cb, 0, none⟩ = some (.pointer (some ⟨fb, below.length * 4, none⟩)) ∧ W.cell? ⟨fb, below.length * 4 + 2, none⟩ = some (.slice (some ⟨lb, 0, none⟩) f.loc.length lc) ∧ W.cell? ⟨cb + 1, 1, none⟩ = some (.int .i64 i)) ∧ (∀ k, W.frozen? ⟨lb, k, none⟩ = false) ∧ (W.cell? ⟨lb, i * 2, none⟩ = some (.bool (f.loc.getD i default).ref) ∧ W.cell? ⟨lb, i * 2 + 1, none⟩ = some (.int .i64 (f.loc.getD i default).n)) ∧ Hid (PlS B w ((W.setCell ⟨lb, i * 2, none⟩ (.bool tr)).setCell ⟨lb, i * 2 + 1, none⟩ (.int .i64 tn)) U R mb ib p { S with frs := { f with loc := f.loc.set i ⟨tr, tn⟩ } :: below } X fb c below.length cb ⟨4, i, xb, xn⟩)) := fun W hP hW => by
  have hx := ((Upd.refl [] w1).drew).trans hW.out
  obtain ⟨lb2, lc2, ⟨_, h1⟩, h7, h2, h3⟩ := hP.out.local HF.out rfl i hi
  have h4 := hx.cell l1 (by simp)
  rw [h1] at h4
  injection h4 with h4
  injection h4 with h4 _ _
  injection h4 with h4
  injection h4 with h4
  subst h4
  exact ⟨⟨hx.cell l0 (by simp), hx.cell l1 (by simp), hx.cell x1 (by simp)⟩, h2, h7, h3 ⟨tr, tn⟩⟩
 have HPUT : Hid (∀ W, Hid (PlS B w W U R mb ib p { S with frs := { f with loc := f.loc.set i ⟨tr, tn⟩ } :: below } X fb c below.length cb ⟨4, i, xb, xn⟩) → Calls Tryd.prog 45 #[.int .i64 1, .slice none 0 0, .pointer (some ⟨cb, 0, none⟩)] W fun e W' => e = .returned (.tuple #[]) ∧ ∃ gs', Hid (PlS B w W' U R mb ib p { S with frs := { f with loc := f.loc.set i ⟨tr, tn⟩, stk := cutV f.stk 1 } :: below } { X with gs := gs' } fb c below.length cb ⟨4, i, xb, xn⟩)) := fun W hW => hW.out.put0 (f := { f with loc := f.loc.set i ⟨tr, tn⟩ }) rfl rfl 1 hl hn
 clear l0 l1 x1
 have hii : (i : Int) < (f.loc.length : Int) := by omega
 have hi0 : (0 : Int) ≤ (i : Int) := by omega
 refine wp_region_noPanic ?_
 refine wp_region_L (S := fun w' => w'.cell? ⟨cb, 0, none⟩ = some (.pointer (some ⟨fb, below.length * 4, none⟩)) ∧ w'.cell? ⟨fb, below.length * 4 + 2, none⟩ = some (.slice (some ⟨lb, 0, none⟩) f.loc.length lc) ∧ w'.cell? ⟨cb + 1, 1, none⟩ = some (.int .i64 i)) 9 (by kernel_rfl) ?_ (fun hHeld => ?_)
 ·first | exact k0 | exact ⟨k1, k2, k3⟩
 refine Nx.start [(0, [9]), (1, [9]), (2, [9]), (3, [9]), (4, [9]), (5, [9]), (6, [9])] ?_
 iterate 7
  refine Nx.p (oi := ?_) (v := ?_) ?_ (by kernel_rfl) (fun _ _ _ h => h) ?_ ?_ hHeld ?_
  rotate_left 2
  ·simp only [List.getElem?_toArray, List.getElem?_cons_zero, List.getElem?_cons_succ]; rfl
  ·rfl
  ·intro _ hSw; (try dsimp only at hSw); go_simp <;> with_reducible rfl
  (try simp only [Act.put, List.setIfInBounds_toArray, List.set_cons_zero, List.set_cons_succ])
 refine Nx.stop ?_
 refine wpAnyL_one (i := 7) (o := ?_) (by kernel_rfl) ?_ (fun K hK => ?_)
 rotate_left 1
 ·simp only [List.getElem?_toArray, List.getElem?_cons_zero, List.getElem?_cons_succ]; rfl
 clear hHeld
 go_simp
 (go_at_call 44; refine (HT.out).mono ?_; rintro e w2 ⟨he, H2, hu2⟩; rw [HTV.out] at he; subst he; obtain ⟨⟨k1, k2, k3⟩, z0, ⟨y0, y1⟩, HS⟩ := HK.out w2 H2 hu2; clear H2 hu2)
 try go_wp2_with fail
 refine hK.out _ _ ?_ (fun hHeld => ?_)
 ·first | exact k0 | exact ⟨k1, k2, k3⟩
 clear hK K
 (try simp only [Act.put, List.setIfInBounds_toArray, List.set_cons_zero, List.set_cons_succ])
 refine wpAnyL_takeP (i := 8) [9] (oi := ?_) (v := ?_) ?_ (by kernel_rfl) (by kernel_rfl) (by kernel_rfl) (by kernel_rfl) (fun _ _ _ h => h) (Or.inl ⟨?_, ?_⟩) hHeld ?_
 rotate_left 2
 ·simp only [List.getElem?_toArray, List.getElem?_cons_zero, List.getElem?_cons_succ]; rfl
 ·rfl
 ·intro _ hSw; (try dsimp only at hSw); go_simp <;> with_reducible rfl
 (try simp only [Act.put, List.setIfInBounds_toArray, List.set_cons_zero, List.set_cons_succ])
 refine wpAnyL_last (o := ?_) (by kernel_rfl) ?_ (fun K hK => ?_)
 rotate_left 1
 ·simp only [List.getElem?_toArray, List.getElem?_cons_zero, List.getElem?_cons_succ]; rfl
 clear hHeld
 go_simp
 refine hK.out _ _ ?_
 clear hK K
 (try simp only [Act.put, List.setIfInBounds_toArray, List.set_cons_zero, List.set_cons_succ])
 refine wpAnyL_done (by kernel_rfl) ?_ _
 refine NoPanic.normal ?_
 go_wp2_with fail
 refine (HPUT.out _ HS).mono ?_
 rintro e w3 ⟨rfl, gs', H3⟩
 go_wp2_with fail
 go_ret
 exact ⟨rfl, H3.out.fin HFV.out⟩

set_option maxRecDepth 100000 in
set_option maxHeartbeats 4000000 in
theorem mplain_18 {xa xb xn : Int} (h : MAt B w U R mb ib p S X) (hf : S.frs = f :: below) (hfv : X.fv = .slice (some ⟨fb, 0, none⟩) (below.length + 1) c) (hn : f.stk.length ≤ 1000) (hl : 1 ≤ f.stk.length) :
  Calls Tryd.prog 34 #[.pointer (some ⟨mb, 0, none⟩), .pointer (some ⟨fb, below.length * 4, none⟩), .agg #[.int .i64 18, .int .i64 xa, .int .i64 xb, .int .i64 xn]] w fun e w' => e = .returned (.int .i64 0) ∧ PlEnd B w w' U R mb ib p X { S with frs := { f with stk := cutV f.stk 1 ++ [vi (IntKind.i64.wrap (-(tp f.stk 0).n))] } :: below } := by
 have H1 := Lib.hid (PlS.start (n := below.length) h hfv ⟨18, xa, xb, xn⟩)
 have HF := Lib.hid hf
 have HFV := Lib.hid hfv
 have hvn := val_n
 have HH := Lib.hid h
 clear h hf hfv
 obtain ⟨tr, tn, htv⟩ : ∃ tr tn, tp f.stk 0 = ⟨tr, tn⟩ := ⟨_, _, rfl⟩
 rw [htv]
 have HTV := Lib.hid htv
 clear htv
 go_enter Tryd.func34, Tryd.ntmps34
 go_upto_region 25 with fail
 generalize (w.alloc (.cells #[.pointer (some ⟨fb, below.length * 4, none⟩)] 98)).alloc (.cells #[.int .i64 18, .int .i64 xa, .int .i64 xb, .int .i64 xn] 29) = w1 at H1 ⊢
 generalize w.heap.size = cb at H1 ⊢
 have HX := Lib.hid H1.out.xbx
 have k0 : w1.cell? ⟨cb + 1, 0, none⟩ = some (.int .i64 18) := by rw [cell_of HX.out]; rfl
 have HT := Lib.hid ((H1.out.keep ((Upd.refl [] w1).drew)).top HF.out rfl 0 (by omega))
 have HK : Hid (∀ W, Hid (Upd [] w1.drew W) → W.cell? ⟨cb + 1, 0, none⟩ = some (.int .i64 18)) := fun W hW => (((Upd.refl [] w1).drew).trans hW.out).cell k0 (by simp)
 obtain ⟨nv, hnv⟩ : ∃ nv, IntKind.i64.wrap (-tn) = nv := ⟨_, rfl⟩
 have HNV := Lib.hid hnv
 have HO : Hid (∀ W, Calls Tryd.prog 47 #[.int .i64 18, .int .i64 tn] W fun e w' => e = .returned (.tuple #[.int .i64 nv, .bool true]) ∧ W = w') := fun W => by
  rw [← hnv]
  exact wone_any tn W
 clear hnv
 refine wp_region_noPanic ?_
 refine wp_region_L (S := fun w' => w'.cell? ⟨cb + 1, 0, none⟩ = some (.int .i64 18)) 10 (by kernel_rfl) ?_ (fun hHeld => ?_)
 ·first | exact k0 | exact k1
 refine Nx.start [(0, [10]), (1, [10]), (2, [10])] ?_
 iterate 3
  refine Nx.p (oi := ?_) (v := ?_) ?_ (by kernel_rfl) (fun _ _ _ h => h) ?_ ?_ hHeld ?_
  rotate_left 2
  ·simp only [List.getElem?_toArray, List.getElem?_cons_zero, List.getElem?_cons_succ]; rfl
  ·rfl
  ·intro _ hSw; (try dsimp only at hSw); go_simp <;> with_reducible rfl
  (try simp only [Act.put, List.setIfInBounds_toArray, List.set_cons_zero, List.set_cons_succ])
 refine Nx.stop ?_
 refine wpAnyL_one (i := 3) (o := ?_) (by kernel_rfl) ?_ (fun K hK => ?_)
 rotate_left 1
 ·simp only [List.getElem?_toArray, List.getElem?_cons_zero, List.getElem?_cons_succ]; rfl
 clear hHeld
 go_simp
 (go_at_call 44; refine (HT.out).mono ?_; rintro e w2 ⟨he, H2, hu2⟩; rw [HTV.out] at he; subst he; have k1 := HK.out w2 hu2; clear hu2)
 try go_wp2_with fail
 refine hK.out _ _ ?_ (fun hHeld => ?_)
 ·first | exact k0 | exact k1
 clear hK K
 (try simp only [Act.put, List.setIfInBounds_toArray, List.set_cons_zero, List.set_cons_succ])
 refine wpAnyL_takeP (i := 4) [10] (oi := ?_) (v := ?_) ?_ (by kernel_rfl) (by kernel_rfl) (by kernel_rfl) (by kernel_rfl) (fun _ _ _ h => h) (Or.inl ⟨?_, ?_⟩) hHeld ?_
 rotate_left 2
 ·simp only [List.getElem?_toArray, List.getElem?_cons_zero, List.getElem?_cons_succ]; rfl
 ·rfl
 ·intro _ hSw; (try dsimp only at hSw); go_simp <;> with_reducible rfl
 (try simp only [Act.put, List.setIfInBounds_toArray, List.set_cons_zero, List.set_cons_succ])
 refine wpAnyL_one (i := 5) (o := ?_) (by kernel_rfl) ?_ (fun K hK => ?_)
 rotate_left 1
 ·simp only [List.getElem?_toArray, List.getElem?_cons_zero, List.getElem?_cons_succ]; rfl
 clear hHeld
 go_simp
 (go_at_call 47; refine (HO.out w2).mono ?_; rintro e w3 ⟨rfl, rfl⟩)
 try go_wp2_with fail
 refine hK.out _ _ ?_ (fun hHeld => ?_)
 ·first | exact k0 | exact k1
 clear hK K
 (try simp only [Act.put, List.setIfInBounds_toArray, List.set_cons_zero, List.set_cons_succ])
 refine Nx.start [(6, [10]), (7, [10]), (8, [10]), (9, [10])] ?_
 iterate 4
  refine Nx.p (oi := ?_) (v := ?_) ?_ (by kernel_rfl) (fun _ _ _ h => h) ?_ ?_ hHeld ?_
  rotate_left 2
  ·simp only [List.getElem?_toArray, List.getElem?_cons_zero, List.getElem?_cons_succ]; rfl
  ·rfl
  ·intro _ hSw; (try dsimp only at hSw); go_simp <;> with_reducible rfl
  (try simp only [Act.put, List.setIfInBounds_toArray, List.set_cons_zero, List.set_cons_succ])
 refine Nx.stop ?_
 refine wpAnyL_last (o := ?_) (by kernel_rfl) ?_ (fun K hK => ?_)
 rotate_left 1
 ·simp only [List.getElem?_toArray, List.getElem?_cons_zero, List.getElem?_cons_succ]; rfl
 clear hHeld
 go_simp
 refine hK.out _ _ ?_
 clear hK K
 (try simp only [Act.put, List.setIfInBounds_toArray, List.set_cons_zero, List.set_cons_succ])
 refine wpAnyL_done (by kernel_rfl) ?_ _
 refine NoPanic.normal ?_
 go_wp2_with fail
 refine (mnum_any nv w2).mono ?_
 rintro e w4 ⟨rfl, hu4⟩
 have HP := Lib.hid ((H2.out.keep hu4).put1 HF.out rfl 1 hl hn (vi nv))
 clear hu4
 go_wp2_with fail
 refine HP.out.mono ?_
 rintro e w5 ⟨rfl, gs', H3⟩
 go_wp2_with fail
 go_ret
 refine ⟨rfl, ?_⟩
 rw [show IntKind.i64.wrap (-(⟨tr, tn⟩ : Vl).n) = nv from HNV.out]
 exact H3.out.fin HFV.out

set_option maxRecDepth 100000 in
set_option maxHeartbeats 4000000 in
theorem mplain_two {xa xb xn : Int} {op nv nt : Int} (h : MAt B w U R mb ib p S X) (hf : S.frs = f :: below) (hfv : X.fv = .slice (some ⟨fb, 0, none⟩) (below.length + 1) c) (hn : f.stk.length ≤ 1000) (hl : 2 ≤ f.stk.length) (hop : op = 8 ∨ op = 9 ∨ op = 10 ∨ op = 11 ∨ op = 12 ∨ op = 13 ∨ op = 14 ∨ op = 15 ∨ op = 16 ∨ op = 17 ∨ op = 19 ∨ op = 20) (hin : in64 (tp f.stk 1).n) (hnv : twoL op (tp f.stk 1).n (tp f.stk 0).n = (nv, nt)) :
  Calls Tryd.prog 34 #[.pointer (some ⟨mb, 0, none⟩), .pointer (some ⟨fb, below.length * 4, none⟩), .agg #[.int .i64 op, .int .i64 xa, .int .i64 xb, .int .i64 xn]] w fun e w' => e = .returned (.int .i64 nt) ∧ PlEnd B w w' U R mb ib p X (if nt ≠ 0 then S else { S with frs := { f with stk := cutV f.stk 2 ++ [vi nv] } :: below }) := by
 have H1 := Lib.hid (PlS.start (n := below.length) h hfv ⟨op, xa, xb, xn⟩)
 have HF := Lib.hid hf
 have HFV := Lib.hid hfv
 have hvn := val_n
 have HH := Lib.hid h
 clear h hf hfv
 obtain ⟨tr, tn, htv⟩ : ∃ tr tn, tp f.stk 0 = ⟨tr, tn⟩ := ⟨_, _, rfl⟩
 rw [htv] at hnv
 have HTV := Lib.hid htv
 clear htv
 obtain ⟨ur, un, htu⟩ : ∃ ur un, tp f.stk 1 = ⟨ur, un⟩ := ⟨_, _, rfl⟩
 rw [htu] at hin hnv
 have HTU := Lib.hid htu
 clear htu
 have HO : Hid (∀ W, Calls Tryd.prog 51 #[.int .i64 op, .int .i64 un, .int .i64 tn] W fun e w' => e = .returned (.tuple #[.int .i64 nv, .int .i64 nt]) ∧ W = w') := fun W => by
  have h1 := wtwo_any op un tn hop hin W
  rw [show twoL op un tn = (nv, nt) from hnv] at h1
  exact h1
 have hne : ∀ k : Int, k = 1 ∨ k = 2 ∨ k = 3 ∨ k = 4 ∨ k = 5 ∨ k = 6 ∨ k = 7 ∨ k = 18 ∨ k = 21 ∨ k = 24 ∨ k = 25 ∨ k = 26 ∨ k = 27 ∨ k = 28 ∨ k = 29 ∨ k = 30 ∨ k = 31 ∨ k = 34 ∨ k = 35 → ¬ op = k := fun k hk => by omega
 have n1 := hne 1 (by decide)
 have n2 := hne 2 (by decide)
 have n3 := hne 3 (by decide)
 have n4 := hne 4 (by decide)
 have n5 := hne 5 (by decide)
 have n6 := hne 6 (by decide)
 have n7 := hne 7 (by decide)
 have n18 := hne 18 (by decide)
 have n21 := hne 21 (by decide)
 have n24 := hne 24 (by decide)
 have n25 := hne 25 (by decide)
 have n26 := hne 26 (by decide)
 have n27 := hne 27 (by decide)
 have n28 := hne 28 (by decide)
 have n29 := hne 29 (by decide)
 have n30 := hne 30 (by decide)
 have n31 := hne 31 (by decide)
 have n34 := hne 34 (by decide)
 have n35 := hne 35 (by decide)
 have HIN := Lib.hid hin
 clear hin hnv hop hne
 go_enter Tryd.func34, Tryd.ntmps34
 go_upto_region 5 with fail
 generalize (w.alloc (.cells #[.pointer (some ⟨fb, below.length * 4, none⟩)] 98)).alloc (.cells #[.int .i64 op, .int .i64 xa, .int .i64 xb, .int .i64 xn] 29) = w1 at H1 ⊢
 generalize w.heap.size = cb at H1 ⊢
 have HX := Lib.hid H1.out.xbx
 have k0 : w1.cell? ⟨cb + 1, 0, none⟩ = some (.int .i64 op) := by rw [cell_of HX.out]; rfl
 have HT1 := Lib.hid ((H1.out.keep ((Upd.refl [] w1).drew)).top HF.out rfl 1 (by omega))
 have HK : Hid (∀ W, Hid (PlS B w W U R mb ib p S X fb c below.length cb ⟨op, xa, xb, xn⟩) → Hid (Upd [] w1.drew W) → W.cell? ⟨cb + 1, 0, none⟩ = some (.int .i64 op) ∧ Hid (Calls Tryd.prog 44 #[.int .i64 (0 : Nat), .pointer (some ⟨cb, 0, none⟩)] W fun e W' => e = .returned (.agg #[.bool (tp f.stk 0).ref, .int .i64 (tp f.stk 0).n]) ∧ Hid (PlS B w W' U R mb ib p S X fb c below.length cb ⟨op, xa, xb, xn⟩) ∧ Hid (Upd [] W W'))) := fun W hP hW => ⟨(((Upd.refl [] w1).drew).trans hW.out).cell k0 (by simp), hP.out.top HF.out rfl 0 (by omega)⟩
 have HK2 : Hid (∀ W W2, W2.cell? ⟨cb + 1, 0, none⟩ = some (.int .i64 op) → Hid (Upd [] W2 W) → W.cell? ⟨cb + 1, 0, none⟩ = some (.int .i64 op)) := fun W W2 h2 hW => hW.out.cell h2 (by simp)
 refine wp_region_noPanic ?_
 refine wp_region_L (S := fun w' => w'.cell? ⟨cb + 1, 0, none⟩ = some (.int .i64 op)) 13 (by kernel_rfl) ?_ (fun hHeld => ?_)
 ·first | exact k0 | exact k1 | exact k2
 refine Nx.start [(0, [13]), (1, [13]), (2, [13]), (5, [13])] ?_
 iterate 4
  refine Nx.p (oi := ?_) (v := ?_) ?_ (by kernel_rfl) (fun _ _ _ h => h) ?_ ?_ hHeld ?_
  rotate_left 2
  ·simp only [List.getElem?_toArray, List.getElem?_cons_zero, List.getElem?_cons_succ]; rfl
  ·rfl
  ·intro _ hSw; (try dsimp only at hSw); go_simp <;> with_reducible rfl
  (try simp only [Act.put, List.setIfInBounds_toArray, List.set_cons_zero, List.set_cons_succ])
 refine Nx.stop ?_
 refine wpAnyL_one (i := 3) (o := ?_) (by kernel_rfl) ?_ (fun K hK => ?_)
 rotate_left 1
 ·simp only [List.getElem?_toArray, List.getElem?_cons_zero, List.getElem?_cons_succ]; rfl
 clear hHeld
 go_simp
 (go_at_call 44; refine (HT1.out).mono ?_; rintro e w2 ⟨he, H2, hu2⟩; rw [HTU.out] at he; subst he; obtain ⟨k1, HT0⟩ := HK.out w2 H2 hu2; clear H2 hu2)
 try go_wp2_with fail
 refine hK.out _ _ ?_ (fun hHeld => ?_)
 ·first | exact k0 | exact k1 | exact k2
 clear hK K
 (try simp only [Act.put, List.setIfInBounds_toArray, List.set_cons_zero, List.set_cons_succ])
 refine wpAnyL_takeP (i := 4) [13] (oi := ?_) (v := ?_) ?_ (by kernel_rfl) (by kernel_rfl) (by kernel_rfl) (by kernel_rfl) (fun _ _ _ h => h) (Or.inl ⟨?_, ?_⟩) hHeld ?_
 rotate_left 2
 ·simp only [List.getElem?_toArray, List.getElem?_cons_zero, List.getElem?_cons_succ]; rfl
 ·rfl
 ·intro _ hSw; (try dsimp only at hSw); go_simp <;> with_reducible rfl
 (try simp only [Act.put, List.setIfInBounds_toArray, List.set_cons_zero, List.set_cons_succ])
 refine wpAnyL_one (i := 6) (o := ?_) (by kernel_rfl) ?_ (fun K hK => ?_)
 rotate_left 1
 ·simp only [List.getElem?_toArray, List.getElem?_cons_zero, List.getElem?_cons_succ]; rfl
 clear hHeld
 go_simp
 (go_at_call 44; refine (HT0.out).mono ?_; rintro e w3 ⟨he, H3, hu3⟩; rw [HTV.out] at he; subst he; have k2 := HK2.out w3 w2 k1 hu3; clear hu3)
 try go_wp2_with fail
 refine hK.out _ _ ?_ (fun hHeld => ?_)
 ·first | exact k0 | exact k1 | exact k2
 clear hK K
 (try simp only [Act.put, List.setIfInBounds_toArray, List.set_cons_zero, List.set_cons_succ])
 refine wpAnyL_takeP (i := 7) [13] (oi := ?_) (v := ?_) ?_ (by kernel_rfl) (by kernel_rfl) (by kernel_rfl) (by kernel_rfl) (fun _ _ _ h => h) (Or.inl ⟨?_, ?_⟩) hHeld ?_
 rotate_left 2
 ·simp only [List.getElem?_toArray, List.getElem?_cons_zero, List.getElem?_cons_succ]; rfl
 ·rfl
 ·intro _ hSw; (try dsimp only at hSw); go_simp <;> with_reducible rfl
 (try simp only [Act.put, List.setIfInBounds_toArray, List.set_cons_zero, List.set_cons_succ])
 refine wpAnyL_one (i := 8) (o := ?_) (by kernel_rfl) ?_ (fun K hK => ?_)
 rotate_left 1
 ·simp only [List.getElem?_toArray, List.getElem?_cons_zero, List.getElem?_cons_succ]; rfl
 clear hHeld
 go_simp
 (go_at_call 51; refine (HO.out w3).mono ?_; rintro e w4 ⟨rfl, rfl⟩)
 try go_wp2_with fail
 refine hK.out _ _ ?_ (fun hHeld => ?_)
 ·first | exact k0 | exact k1 | exact k2
 clear hK K
 (try simp only [Act.put, List.setIfInBounds_toArray, List.set_cons_zero, List.set_cons_succ])
 refine Nx.start [(9, [13]), (10, [13]), (11, [13]), (12, [13])] ?_
 iterate 4
  refine Nx.p (oi := ?_) (v := ?_) ?_ (by kernel_rfl) (fun _ _ _ h => h) ?_ ?_ hHeld ?_
  rotate_left 2
  ·simp only [List.getElem?_toArray, List.getElem?_cons_zero, List.getElem?_cons_succ]; rfl
  ·rfl
  ·intro _ hSw; (try dsimp only at hSw); go_simp <;> with_reducible rfl
  (try simp only [Act.put, List.setIfInBounds_toArray, List.set_cons_zero, List.set_cons_succ])
 refine Nx.stop ?_
 refine wpAnyL_last (o := ?_) (by kernel_rfl) ?_ (fun K hK => ?_)
 rotate_left 1
 ·simp only [List.getElem?_toArray, List.getElem?_cons_zero, List.getElem?_cons_succ]; rfl
 clear hHeld
 go_simp
 refine hK.out _ _ ?_
 clear hK K
 (try simp only [Act.put, List.setIfInBounds_toArray, List.set_cons_zero, List.set_cons_succ])
 refine wpAnyL_done (by kernel_rfl) ?_ _
 refine NoPanic.normal ?_
 have HX3 := Lib.hid H3
 by_cases hz : nt = 0
 ·subst hz
  go_wp2_with fail
  refine (mnum_any nv w3).mono ?_
  rintro e w4 ⟨rfl, hu4⟩
  have HP := Lib.hid ((H3.out.keep hu4).put1 HF.out rfl 2 hl hn (vi nv))
  clear hu4
  go_wp2_with fail
  refine HP.out.mono ?_
  rintro e w5 ⟨rfl, gs', H5⟩
  go_wp2_with fail
  go_ret
  refine ⟨rfl, ?_⟩
  exact H5.out.fin HFV.out
 ·go_wp2_with fail
  go_ret
  refine ⟨rfl, ?_⟩
  exact H3.out.fin HFV.out

end
end Go.Proofs.YtojobkhidlfeoaaDoor
