/- slices.Clone of classes and of instructions; verify.copied. verify.copied. -/
import Derived.Test.YtojobkhidlfeoaaDoorPrg
import Derived.Test.YtojobkhidlfeoaaDoorOwnI
import Derived.Test.YtojobkhidlfeoaaDoorOwnNe
import Derived.Test.YtojobkhidlfeoaaDoorRows
/-! slices.Clone of classes and of instructions; verify.copied. -/
namespace Go.Proofs.YtojobkhidlfeoaaDoor
open Go.RowKit

theorem Tryd.infoClass : (Tryd.prog.info? 87).map (fun i => (i.zero, i.size, i.bytes)) = some (some (.agg #[.string ⟨#[]⟩]), 1, 16) := by kernel_rfl
theorem Tryd.infoInstr : (Tryd.prog.info? 29).map (fun i => (i.zero, i.size, i.bytes)) = some (some (.agg #[.int .i64 0, .int .i64 0, .int .i64 0, .int .i64 0]), 4, 32) := by kernel_rfl
theorem Tryd.infoMethod : (Tryd.prog.info? 32).map (fun i => (i.zero, i.size, i.bytes)) = some (some (.agg #[.string ⟨#[]⟩, .string ⟨#[]⟩, .string ⟨#[]⟩, .slice none 0 0]), 4, 72) := by kernel_rfl

/-- The cells of classes, of instructions. -/
def ccells (cs : List ByteArray) : List Value := cs.map Value.string
def xcells : List Ins → List Value
 | [] => []
 | x :: t => .int .i64 x.op :: .int .i64 x.a :: .int .i64 x.b :: .int .i64 x.n :: xcells t
theorem xcells_len : ∀ xs : List Ins, (xcells xs).length = xs.length * 4
 | [] => rfl
 | x :: t => by simp only [xcells, List.length_cons, xcells_len t]; omega
theorem xcells_get : ∀ (xs : List Ins) (i : Nat), i < xs.length → (xcells xs)[i * 4]? = some (.int .i64 (xs.getD i default).op) ∧ (xcells xs)[i * 4 + 1]? = some (.int .i64 (xs.getD i default).a) ∧ (xcells xs)[i * 4 + 2]? = some (.int .i64 (xs.getD i default).b) ∧ (xcells xs)[i * 4 + 3]? = some (.int .i64 (xs.getD i default).n)
 | [], i, h => by simp at h
 | x :: t, 0, _ => ⟨rfl, rfl, rfl, rfl⟩
 | x :: t, i + 1, h => by
  have ih := xcells_get t i (by simpa using h)
  have e : (i + 1) * 4 = i * 4 + 4 := by omega
  rw [e]
  exact ih
theorem xcells_one : ∀ xs : List Ins, ∀ u ∈ xcells xs, u.oneCell' = true
 | [], _, h => by simp [xcells] at h
 | x :: t, u, h => by
  simp only [xcells, List.mem_cons] at h
  rcases h with rfl | rfl | rfl | rfl | h
  ·rfl
  ·rfl
  ·rfl
  ·rfl
  ·exact xcells_one t u h
/-- Any cell of instructions. -/
theorem xcells_any {w : World} {b o : Nat} {xs : List Ins} (h : ∀ i, i < xs.length → InsAt w b (o + i * 4) (xs.getD i default)) (j : Nat) (u : Value) (hu : (xcells xs)[j]? = some u) : w.cell? ⟨b, o + j, none⟩ = some u := by
 have hj : j < xs.length * 4 := by rw [← xcells_len]; exact (List.getElem?_eq_some_iff.1 hu).1
 have hi : j / 4 < xs.length := by omega
 obtain ⟨g0, g1, g2, g3⟩ := xcells_get xs (j / 4) hi
 obtain ⟨h0, h1, h2, h3⟩ := h (j / 4) hi
 have hm : j = j / 4 * 4 ∨ j = j / 4 * 4 + 1 ∨ j = j / 4 * 4 + 2 ∨ j = j / 4 * 4 + 3 := by omega
 generalize j / 4 = q at *
 rcases hm with rfl | rfl | rfl | rfl
 ·rw [g0] at hu; rw [← hu]; exact h0
 ·rw [g1] at hu; rw [← hu]; exact h1
 ·rw [g2] at hu; rw [← hu]; exact h2
 ·rw [g3] at hu; rw [← hu]; exact h3

/-- The block of a slice. -/
def codeBlk : Value → Option Nat
 | .slice (some a) _ _ => some a.block
 | _ => none
theorem CodeAt.upd2 {w w' : World} {v : Value} {xs : List Ins} {T : List Nat} (h : CodeAt w v xs) (hu : Upd T w w') (hT : ∀ b, codeBlk v = some b → b ∉ T) : CodeAt w' v xs := by
 obtain ⟨a, cap, h1, h2, h3, h4⟩ := h
 refine ⟨a, cap, h1, h2, h3, fun i hi => ?_⟩
 obtain ⟨b, o, h5, h6, h7⟩ := h4 i hi
 subst h1
 subst h5
 have hb := hT b rfl
 exact ⟨b, o, rfl, h6, hu.cell h7.1 hb, hu.cell h7.2.1 hb, hu.cell h7.2.2.1 hb, hu.cell h7.2.2.2 hb⟩

set_option maxRecDepth 100000 in
set_option maxHeartbeats 2000000 in
theorem cloneI_any (v : Value) (xs : List Ins) (w : World) (h : CodeAt w v xs) (hn : xs.length ≤ 100000) :
  Calls Tryd.prog 26 #[v] w fun e w' => ∃ u, e = .returned u ∧ CodeAt w' u xs ∧ (∀ b, codeBlk u = some b → w.heap.size ≤ b ∧ b < w'.heap.size) ∧ Upd [] w w' := by
 obtain ⟨i0, hi, hz0, hz1, hz2⟩ := info_parts Tryd.infoInstr
 have HI := Lib.hid hi
 have HZ0 := Lib.hid hz0
 have HZ1 := Lib.hid hz1
 have HZ2 := Lib.hid hz2
 clear hi hz0 hz1 hz2
 have hv := h
 obtain ⟨a, cap, rfl, hl, hm, hx⟩ := hv
 unfold maxLen at hm
 have HX := Lib.hid hx
 have HH := Lib.hid h
 clear hx h
 cases a with
 | none =>
  have h0 : xs.length = 0 := by
   rcases Nat.eq_zero_or_pos xs.length with h | h
   ·exact h
   ·obtain ⟨b, o, e, _⟩ := HX.out 0 h; cases e
  have hxs : xs = [] := List.eq_nil_of_length_eq_zero h0
  subst hxs
  have hq : ∀ W, (binOp BinOp.eql 30 (.slice none 0 cap) (.slice none 0 0)).run Tryd.prog W = .ok (.bool true) W := fun _ => by kernel_rfl
  go_enter Tryd.func26, Tryd.ntmps26
  go_wp2_with fail
  go_ret
  exact ⟨_, rfl, ⟨none, 0, rfl, Nat.le_refl _, by unfold maxLen; omega, by simp⟩, by simp [codeBlk], Upd.refl _ _⟩
 | some ad =>
  have hq : ∀ W, (binOp BinOp.eql 30 (.slice (some ad) xs.length cap) (.slice none 0 0)).run Tryd.prog W = .ok (.bool false) W := fun _ => by kernel_rfl
  go_enter Tryd.func26, Tryd.ntmps26
  go_wp2_with (at_builtin; refine stop_here ?_)
  refine Hid.mk ?_
  have hrow : (w.alloc (.cells #[] 29)).ownsRow w.heap.size 29 4 (.slice (some ⟨w.heap.size, 0, none⟩) 0 0) 0 [] :=
   ⟨by simp, .inr ⟨w.heap.size, 0, #[], rfl, Nat.le_refl _, heap_alloc_new _ _, by omega, by simp [maxLen], by simp, by simp⟩⟩
  have hsrc : SrcV (w.alloc (.cells #[] 29)) (.slice (some ad) xs.length cap) xs.length (xcells xs) := by
   refine .inr ⟨ad, cap, rfl, fun j u hu => ?_⟩
   have hu0 := (Upd.refl [] w).alloc (.cells #[] 29)
   have hj : j < xs.length * 4 := by rw [← xcells_len]; exact (List.getElem?_eq_some_iff.1 hu).1
   obtain ⟨b, o, e, _⟩ := HX.out 0 (by omega)
   injection e with e
   subst e
   have := xcells_any (w := w) (b := b) (o := o) (xs := xs) (fun i hi => by
    obtain ⟨b', o', e, _, h⟩ := HX.out i hi
    injection e with e
    injection e with e1 e2
    subst e1; subst e2
    exact h) j u hu
   rw [Addr.add_lit]
   exact hu0.cell this (by simp)
  refine (wpList_append_src rfl _ _ 30 rfl w.heap.size 29 i0 _ 4 32 Tryd.underlying30 HI.out HZ0.out HZ1.out HZ2.out rfl (by decide) _ _ _ rfl hrow _ xs.length (xcells xs) rfl hsrc (xcells_len xs) (xcells_one xs) (by unfold maxLen; omega) (by omega) (by simp) ?_)
  intro v' w6 hown hgr _
  have hu := ((Upd.refl [] w).alloc (.cells #[] 29)).grown hgr (fun q hq => .inr (by injection hq with hq; exact Nat.le_of_eq hq))
  rw [Nat.zero_add, List.nil_append] at hown
  have HO : Hid (CodeAt w6 v' xs) := by
   show CodeAt w6 v' xs
   rcases hown.2 with ⟨h1, h2⟩ | ⟨g, c, cur, h1, h3, h4, h5, h6, h7, h8⟩
   ·have hxs : xs = [] := List.eq_nil_of_length_eq_zero h2
    subst hxs
    exact ⟨none, 0, h1, Nat.le_refl _, by unfold maxLen; omega, by simp⟩
   ·refine ⟨_, c, h1, h5, h6, fun i hi => ⟨g, 0, rfl, ?_, ?_⟩⟩
    ·obtain ⟨_, _, _, hb, _⟩ := HX.out i hi; exact hb
    ·obtain ⟨g0, g1, g2, g3⟩ := xcells_get xs i hi
     have cell : ∀ j u, (xcells xs)[j]? = some u → w6.cell? ⟨g, j, none⟩ = some u := fun j u hj => by
      have := hown.cells (g := g) (by rw [h1]; rfl) j u hj
      rwa [Addr.add_lit, Nat.zero_add] at this
     refine ⟨?_, ?_, ?_, ?_⟩
     ·rw [Nat.zero_add]; exact cell _ _ g0
     ·rw [Nat.zero_add]; exact cell _ _ g1
     ·rw [Nat.zero_add]; exact cell _ _ g2
     ·rw [Nat.zero_add]; exact cell _ _ g3
  have HU := Lib.hid hu
  have HCB : Hid (∀ b, codeBlk v' = some b → w.heap.size ≤ b ∧ b < w6.heap.size) := by
   intro b hb
   rcases hown.2 with ⟨h1, h2⟩ | ⟨g, c, cur, h1, h3, h4, h5, h6, h7, h8⟩
   ·rw [h1] at hb; simp [codeBlk] at hb
   ·rw [h1] at hb
    simp [codeBlk] at hb
    subst hb
    exact ⟨h3, lt_of_heap h4⟩
  obtain ⟨p2, c2, rfl⟩ : ∃ p2 c2, v' = .slice p2 xs.length c2 := by obtain ⟨p, c, h, _⟩ := HO.out; exact ⟨p, c, h⟩
  clear hown hgr hu hrow hsrc
  go_wp2_with fail
  go_ret
  exact ⟨_, rfl, HO.out, HCB.out, HU.out⟩

set_option maxRecDepth 100000 in
set_option maxHeartbeats 2000000 in
theorem cloneC_any (v : Value) (cs : List ByteArray) (w : World) (h : ClassAt w v cs) (hn : cs.length ≤ 100000) :
  Calls Tryd.prog 25 #[v] w fun e w' => ∃ u, e = .returned u ∧ ClassAt w' u cs ∧ (∀ b, codeBlk u = some b → w.heap.size ≤ b ∧ b < w'.heap.size) ∧ Upd [] w w' := by
 obtain ⟨i0, hi, hz0, hz1, hz2⟩ := info_parts Tryd.infoClass
 have HI := Lib.hid hi
 have HZ0 := Lib.hid hz0
 have HZ1 := Lib.hid hz1
 have HZ2 := Lib.hid hz2
 clear hi hz0 hz1 hz2
 obtain ⟨a, cap, rfl, ha, hl, hm, hx⟩ := h
 unfold maxLen at hm
 have HX := Lib.hid hx
 have HA := Lib.hid ha
 clear hx ha
 cases a with
 | none =>
  obtain rfl := HA.out rfl
  have hxs : cs = [] := List.eq_nil_of_length_eq_zero (by omega)
  subst hxs
  have hq : ∀ W, (binOp BinOp.eql 34 (.slice none 0 0) (.slice none 0 0)).run Tryd.prog W = .ok (.bool true) W := fun _ => by kernel_rfl
  go_enter Tryd.func25, Tryd.ntmps25
  go_wp2_with fail
  go_ret
  exact ⟨_, rfl, ⟨none, 0, rfl, fun _ => rfl, Nat.le_refl _, by unfold maxLen; omega, by simp⟩, by simp [codeBlk], Upd.refl _ _⟩
 | some ad =>
  have hq : ∀ W, (binOp BinOp.eql 34 (.slice (some ad) cs.length cap) (.slice none 0 0)).run Tryd.prog W = .ok (.bool false) W := fun _ => by kernel_rfl
  go_enter Tryd.func25, Tryd.ntmps25
  go_wp2_with (at_builtin; refine stop_here ?_)
  refine Hid.mk ?_
  have hrow : (w.alloc (.cells #[] 87)).ownsRow w.heap.size 87 1 (.slice (some ⟨w.heap.size, 0, none⟩) 0 0) 0 [] :=
   ⟨by simp, .inr ⟨w.heap.size, 0, #[], rfl, Nat.le_refl _, heap_alloc_new _ _, by omega, by simp [maxLen], by simp, by simp⟩⟩
  have hsrc : SrcV (w.alloc (.cells #[] 87)) (.slice (some ad) cs.length cap) cs.length (ccells cs) := by
   refine .inr ⟨ad, cap, rfl, fun j u hu => ?_⟩
   have hu0 := (Upd.refl [] w).alloc (.cells #[] 87)
   have hj : j < cs.length := by have := (List.getElem?_eq_some_iff.1 hu).1; simpa [ccells] using this
   obtain ⟨b, o, e, _, h⟩ := HX.out j hj
   injection e with e
   subst e
   have e2 : u = .string (cs.getD j ByteArray.empty) := by
    unfold ccells at hu
    rw [List.getElem?_map, List.getElem?_eq_getElem hj] at hu
    rw [List.getD_eq_getElem?_getD, List.getElem?_eq_getElem hj]
    injection hu with hu
    exact hu.symm
   rw [e2]
   rw [Addr.add_lit]
   exact hu0.cell h (by simp)
  refine (wpList_append_src rfl _ _ 34 rfl w.heap.size 87 i0 _ 1 16 Tryd.underlying34 HI.out HZ0.out HZ1.out HZ2.out rfl (by decide) _ _ _ rfl hrow _ cs.length (ccells cs) rfl hsrc (by simp [ccells]) (by intro u hu; simp [ccells] at hu; obtain ⟨a, _, rfl⟩ := hu; rfl) (by unfold maxLen; omega) (by omega) (by simp) ?_)
  intro v' w6 hown hgr _
  have hu := ((Upd.refl [] w).alloc (.cells #[] 87)).grown hgr (fun q hq => .inr (by injection hq with hq; exact Nat.le_of_eq hq))
  rw [Nat.zero_add, List.nil_append] at hown
  have HO : Hid (ClassAt w6 v' cs) := by
   show ClassAt w6 v' cs
   rcases hown.2 with ⟨h1, h2⟩ | ⟨g, c, cur, h1, h3, h4, h5, h6, h7, h8⟩
   ·have hxs : cs = [] := List.eq_nil_of_length_eq_zero h2
    subst hxs
    exact ⟨none, 0, h1, fun _ => rfl, Nat.le_refl _, by unfold maxLen; omega, by simp⟩
   ·refine ⟨_, c, h1, by simp, h5, h6, fun i hi => ⟨g, 0, rfl, ?_, ?_⟩⟩
    ·obtain ⟨_, _, _, hb, _⟩ := HX.out i hi; exact hb
    ·have := hown.cells (g := g) (by rw [h1]; rfl) i (.string (cs.getD i ByteArray.empty)) (by
      unfold ccells
      rw [List.getElem?_map, List.getElem?_eq_getElem hi, List.getD_eq_getElem?_getD, List.getElem?_eq_getElem hi]; rfl)
     rw [Nat.zero_add]
     rwa [Addr.add_lit, Nat.zero_add] at this
  have HU := Lib.hid hu
  have HCB : Hid (∀ b, codeBlk v' = some b → w.heap.size ≤ b ∧ b < w6.heap.size) := by
   intro b hb
   rcases hown.2 with ⟨h1, h2⟩ | ⟨g, c, cur, h1, h3, h4, h5, h6, h7, h8⟩
   ·rw [h1] at hb; simp [codeBlk] at hb
   ·rw [h1] at hb
    simp [codeBlk] at hb
    subst hb
    exact ⟨h3, lt_of_heap h4⟩
  obtain ⟨p2, c2, rfl⟩ : ∃ p2 c2, v' = .slice p2 cs.length c2 := by obtain ⟨p, c, h, _⟩ := HO.out; exact ⟨p, c, h⟩
  clear hown hgr hu hrow hsrc
  go_wp2_with fail
  go_ret
  exact ⟨_, rfl, HO.out, HCB.out, HU.out⟩

theorem ClassAt.upd2 {w w' : World} {v : Value} {cs : List ByteArray} {T : List Nat} (h : ClassAt w v cs) (hu : Upd T w w') (hT : ∀ b, codeBlk v = some b → b ∉ T) : ClassAt w' v cs := by
 obtain ⟨a, cap, h1, h2, h3, h4, h5⟩ := h
 refine ⟨a, cap, h1, h2, h3, h4, fun i hi => ?_⟩
 obtain ⟨b, o, h6, h7, h8⟩ := h5 i hi
 subst h1
 subst h6
 exact ⟨b, o, rfl, h7, hu.cell h8 (hT b rfl)⟩
/-- The cells of methods. -/
def mcells : List Meth → List Value → List Value
 | m :: ms, v :: vs => .string m.params :: .string m.locals :: .string m.ret :: v :: mcells ms vs
 | _, _ => []
theorem mcells_len : ∀ (ms : List Meth) (vs : List Value), vs.length = ms.length → (mcells ms vs).length = ms.length * 4
 | [], [], _ => rfl
 | m :: ms, v :: vs, h => by
  simp only [mcells, List.length_cons, mcells_len ms vs (by simpa using h)]
  omega
theorem mcells_snoc : ∀ (ms : List Meth) (vs : List Value) (m : Meth) (v : Value), vs.length = ms.length → mcells (ms ++ [m]) (vs ++ [v]) = mcells ms vs ++ [.string m.params, .string m.locals, .string m.ret, v]
 | [], [], _, _, _ => rfl
 | a :: ms, b :: vs, m, v, h => by
  simp only [mcells, List.cons_append]
  rw [mcells_snoc ms vs m v (by simpa using h)]
theorem mcells_get : ∀ (ms : List Meth) (vs : List Value) (i : Nat), vs.length = ms.length → i < ms.length → (mcells ms vs)[i * 4]? = some (.string (ms.getD i default).params) ∧ (mcells ms vs)[i * 4 + 1]? = some (.string (ms.getD i default).locals) ∧ (mcells ms vs)[i * 4 + 2]? = some (.string (ms.getD i default).ret) ∧ (mcells ms vs)[i * 4 + 3]? = some (vs.getD i undef)
 | [], _, i, _, h => by simp at h
 | m :: ms, v :: vs, 0, _, _ => ⟨rfl, rfl, rfl, rfl⟩
 | m :: ms, v :: vs, i + 1, h, h2 => by
  have ih := mcells_get ms vs i (by simpa using h) (by simpa using h2)
  have e : (i + 1) * 4 = i * 4 + 4 := by omega
  rw [e]
  exact ih

/-- Methods of one's own, each with its code. -/
structure OwnM (w : World) (B : Nat) (v : Value) (ms : List Meth) (vs : List Value) : Prop where
 row : w.ownsRow B 32 4 v ms.length (mcells ms vs)
 len : vs.length = ms.length
 code : ∀ i, i < ms.length → CodeAt w (vs.getD i undef) (ms.getD i default).code ∧ ∀ b, codeBlk (vs.getD i undef) = some b → v.ownBlock ≠ some b
theorem OwnM.nil (w : World) (B : Nat) : OwnM w B (.slice none 0 0) [] [] := ⟨⟨by simp [mcells], .inl ⟨rfl, rfl⟩⟩, rfl, by simp⟩
theorem OwnM.upd {w w' : World} {B : Nat} {v : Value} {ms : List Meth} {vs : List Value} (h : OwnM w B v ms vs) (hu : Upd [] w w') : OwnM w' B v ms vs :=
 ⟨row_upd h.row hu (by simp), h.len, fun i hi => ⟨(h.code i hi).1.upd hu, (h.code i hi).2⟩⟩
theorem OwnM.meths {w : World} {B : Nat} {v : Value} {ms : List Meth} {vs : List Value} (h : OwnM w B v ms vs) (hz : ∀ i, i < ms.length → (ms.getD i default).sz) : MethsAt w v ms := by
 rcases h.row.2 with ⟨h1, h2⟩ | ⟨g, c, cur, h1, h3, h4, h5, h6, h7, h8⟩
 ·have e : ms = [] := List.eq_nil_of_length_eq_zero h2
  subst e
  exact ⟨none, 0, h1, Nat.le_refl _, by unfold maxLen; omega, by simp⟩
 ·refine ⟨_, c, h1, h5, h6, fun i hi => ⟨g, 0, rfl, hz i hi, ?_⟩⟩
  obtain ⟨g0, g1, g2, g3⟩ := mcells_get ms vs i h.len hi
  have cell : ∀ j u, (mcells ms vs)[j]? = some u → w.cell? ⟨g, 0 + j, none⟩ = some u := fun j u hj => by
   have := h.row.cells (g := g) (by rw [h1]; rfl) j u hj
   rwa [Addr.add_lit] at this
  exact ⟨cell _ _ g0, cell _ _ g1, cell _ _ g2, _, cell _ _ g3, (h.code i hi).1⟩
theorem OwnM.updT {w w' : World} {B : Nat} {v : Value} {ms : List Meth} {vs : List Value} {T : List Nat} (h : OwnM w B v ms vs) (hu : Upd T w w') (h1 : ∀ q, v.ownBlock = some q → q ∉ T) (h2 : ∀ i, i < ms.length → ∀ b, codeBlk (vs.getD i undef) = some b → b ∉ T) : OwnM w' B v ms vs :=
 ⟨row_upd h.row hu h1, h.len, fun i hi => ⟨(h.code i hi).1.upd2 hu (h2 i hi), (h.code i hi).2⟩⟩
theorem OwnM.shape {w : World} {B : Nat} {v : Value} {ms : List Meth} {vs : List Value} (h : OwnM w B v ms vs) : ∃ p c, v = .slice p ms.length c := by
 rcases h.row.2 with ⟨h1, h2⟩ | ⟨g, c, cur, h1, _⟩
 ·exact ⟨none, 0, by rw [h1, h2]⟩
 ·exact ⟨_, c, h1⟩
theorem OwnM.blk {w : World} {B : Nat} {v : Value} {ms : List Meth} {vs : List Value} (h : OwnM w B v ms vs) (k : Nat) (hk : v.ownBlock = some k) : B ≤ k ∧ k < w.heap.size ∧ ∃ cur : Array Value, w.heap[k]? = some (.cells cur 32) := by
 rcases h.row.2 with ⟨h1, h2⟩ | ⟨g, c, cur, h1, h3, h4, _⟩
 ·rw [h1] at hk; simp [Value.ownBlock] at hk
 ·rw [h1] at hk
  simp only [Value.ownBlock, Option.some.injEq] at hk
  subst hk
  exact ⟨h3, lt_of_heap h4, cur, h4⟩
theorem OwnM.push {w w' : World} {B : Nat} {v v' kv : Value} {ms : List Meth} {vs : List Value} {m : Meth} {o : Obj} (h : OwnM w B v ms vs) (hc : CodeAt w kv m.code) (hk : ∀ b, codeBlk kv = some b → v.ownBlock ≠ some b ∧ b < w.heap.size) (hvs : ∀ i, i < ms.length → ∀ b, codeBlk (vs.getD i undef) = some b → b < w.heap.size)
  (hown : w'.ownsRow B 32 4 v' (ms.length + 1) (mcells ms vs ++ [.string m.params, .string m.locals, .string m.ret, kv])) (hgr : (w.alloc o).grownBy w' v.ownBlock) (hat : v'.ownBlock = v.ownBlock ∨ v'.ownBlock = some (w.alloc o).heap.size) :
  OwnM w' B v' (ms ++ [m]) (vs ++ [kv]) := by
 have hlen := h.len
 have hu : Upd v.ownBlock.toList w w' := ((Upd.refl _ w).alloc o).grown hgr (fun q hq => Or.inl (Option.mem_toList.2 hq))
 have hn : ∀ b, v.ownBlock ≠ some b → b < w.heap.size → v'.ownBlock ≠ some b := fun b h1 h2 => by
  rcases hat with e | e
  ·rw [e]; exact h1
  ·rw [e]; intro e2; injection e2 with e2; simp at e2; omega
 refine ⟨by rw [mcells_snoc _ _ _ _ hlen]; simpa using hown, by simp [hlen], fun i hi => ?_⟩
 by_cases e : i < ms.length
 ·have e1 : (vs ++ [kv]).getD i undef = vs.getD i undef := by
   rw [List.getD_eq_getElem?_getD, List.getD_eq_getElem?_getD, List.getElem?_append_left (by omega)]
  have e2 : (ms ++ [m]).getD i default = ms.getD i default := by
   rw [List.getD_eq_getElem?_getD, List.getD_eq_getElem?_getD, List.getElem?_append_left e]
  rw [e1, e2]
  exact ⟨(h.code i e).1.upd2 hu (fun b hb hm => (h.code i e).2 b hb (Option.mem_toList.1 hm)), fun b hb => hn b ((h.code i e).2 b hb) (hvs i e b hb)⟩
 ·have hi2 : i = ms.length := by simp at hi; omega
  subst hi2
  have e1 : (vs ++ [kv]).getD ms.length undef = kv := by rw [← hlen]; simp [List.getD_eq_getElem?_getD]
  have e2 : (ms ++ [m]).getD ms.length default = m := by simp [List.getD_eq_getElem?_getD]
  rw [e1, e2]
  exact ⟨hc.upd2 hu (fun b hb hm => (hk b hb).1 (Option.mem_toList.1 hm)), fun b hb => hn b (hk b hb).1 (hk b hb).2⟩
end Go.Proofs.YtojobkhidlfeoaaDoor

/-! verify.copied. -/
namespace Go.Proofs.YtojobkhidlfeoaaDoor
open Go.RowKit

set_option maxRecDepth 100000 in
set_option maxHeartbeats 4000000 in
theorem copied_any (p : Prg) (cv mv : Value) (w : World) (hc : ClassAt w cv p.cs) (hm : MethsAt w mv p.ms) (hn : p.ms.length ≤ 1000) (hn2 : p.cs.length ≤ 1000) (hk : ∀ j, j < p.ms.length → (p.ms.getD j default).code.length ≤ 1000) :
  Calls Tryd.prog 15 #[.agg #[cv, mv]] w fun e w' => ∃ cv' mv', e = .returned (.agg #[cv', mv']) ∧ ClassAt w' cv' p.cs ∧ MethsAt w' mv' p.ms ∧ Upd [] w w' := by
 obtain ⟨i0, hi, hz0, hz1, hz2⟩ := info_parts Tryd.infoMethod
 have HI := Lib.hid hi
 have HZ0 := Lib.hid hz0
 have HZ1 := Lib.hid hz1
 have HZ2 := Lib.hid hz2
 clear hi hz0 hz1 hz2
 have HC := Lib.hid hc
 have HK := Lib.hid hk
 obtain ⟨ca, cc, rfl, _, hcl, hcm, _⟩ := hc
 obtain ⟨ma, mc, rfl, hml, hmm, hmx⟩ := hm
 have HMX := Lib.hid hmx
 clear hmx hk
 unfold maxLen at hcm hmm
 go_enter Tryd.func15, Tryd.ntmps15
 go_upto_region 1 with fail
 have hu0 := ((Upd.refl [] w).alloc (.cells #[.slice ca p.cs.length cc, .slice ma p.ms.length mc] 36)).alloc (.cells #[.slice none 0 0, .slice none 0 0] 36)
 have hp0 := ((Upd.refl [] _).alloc (.cells #[.slice none 0 0, .slice none 0 0] 36)).heap (heap_alloc_new w (.cells #[.slice ca p.cs.length cc, .slice ma p.ms.length mc] 36)) (by simp)
 have hr0 := heap_alloc_new (w.alloc (.cells #[.slice ca p.cs.length cc, .slice ma p.ms.length mc] 36)) (.cells #[.slice none 0 0, .slice none 0 0] 36)
 rw [show (w.alloc (.cells #[.slice ca p.cs.length cc, .slice ma p.ms.length mc] 36)).heap.size = w.heap.size + 1 by simp] at hr0
 generalize (w.alloc (.cells #[.slice ca p.cs.length cc, .slice ma p.ms.length mc] 36)).alloc (.cells #[.slice none 0 0, .slice none 0 0] 36) = w0 at hu0 hp0 hr0 ⊢
 have p0 : w0.cell? ⟨w.heap.size, 0, none⟩ = some (.slice ca p.cs.length cc) := by rw [cell_of hp0]; rfl
 have hz0 := lt_of_heap hr0
 go_wp2_with fail
 refine (cloneC_any _ p.cs w0 (HC.out.upd hu0) (by omega)).mono ?_
 rintro e w1 ⟨cv', rfl, hc1, hcb, hu1⟩
 have hc1' := hc1
 obtain ⟨ca', cc', rfl, _⟩ := hc1'
 have hp1 := hu1.heap hp0 (by simp)
 have hr1 := hu1.heap hr0 (by simp)
 have HU1 := Lib.hid (hu0.trans hu1)
 have hz1 := hu1.size
 clear hu0 hu1 p0 hp0 hr0
 have hau := (Upd.refl [] w1).alloc (.cells #[.slice ca' p.cs.length cc', .slice none 0 0] 36)
 have hp2 := hau.heap hp1 (by simp)
 have hr2 := hau.heap hr1 (by simp)
 have ho2 := heap_alloc_new w1 (.cells #[.slice ca' p.cs.length cc', .slice none 0 0] 36)
 have hc2 := hc1.upd hau
 have HU2 := Lib.hid (HU1.out.trans hau)
 have hsz : w1.heap.size < (w1.alloc (.cells #[.slice ca' p.cs.length cc', .slice none 0 0] 36)).heap.size := by simp
 go_upto_region 2 with fail
 generalize w1.alloc (.cells #[.slice ca' p.cs.length cc', .slice none 0 0] 36) = w2 at hp2 hr2 ho2 hc2 HU2 hsz ⊢
 have hlo : ∀ b, codeBlk (.slice ca' p.cs.length cc') = some b → w.heap.size + 2 ≤ b ∧ b < w1.heap.size := fun b hb => by have := hcb b hb; omega
 have hob : w.heap.size + 2 ≤ w1.heap.size := by omega
 generalize w1.heap.size = ob at ho2 hlo hsz hob ⊢
 have HLO := Lib.hid hlo
 have HC2 := Lib.hid hc2
 have HP2 := Lib.hid hp2
 have HR2 := Lib.hid hr2
 have p1 : w2.cell? ⟨w.heap.size, 1, none⟩ = some (.slice ma p.ms.length mc) := by rw [cell_of hp2]; rfl
 have HO2 := Lib.hid ho2
 clear hc1 hcb hz1 hau hlo hc2 hp2 hr2 ho2 hp1 hr1 HU1 hz0
 go_wp2_with fail
 go_loopw [13] (fun iv wr => ∃ (k : Nat) (v : Value) (vs : List Value), k ≤ p.ms.length ∧ iv = .int .i64 k ∧ Hid (OwnM wr (ob + 1) v (p.ms.take k) vs) ∧ wr.heap[ob]? = some (.cells #[.slice ca' p.cs.length cc', v] 36) ∧
  Hid (wr.heap[w.heap.size + 1]? = some (.cells #[.slice none 0 0, .slice none 0 0] 36)) ∧ Hid (∀ i, i < k → ∀ b, codeBlk (vs.getD i undef) = some b → ob < b ∧ b < wr.heap.size) ∧ Hid (ClassAt wr (.slice ca' p.cs.length cc') p.cs) ∧ Hid (Upd [] w wr)) (fun iv _ => p.ms.length - (intOf iv).toNat)
 case atStart => exact ⟨0, _, [], by omega, rfl, OwnM.nil _ _, HO2.out, HR2.out, (fun i hi => by omega : ∀ i, i < 0 → _), HC2.out, HU2.out⟩
 case round =>
  clear p1
  obtain ⟨k, v, vs, hk, rfl, HOM, hob1, HRB, HVB, HCC, HU⟩ := hrel
  obtain ⟨wo, rfl⟩ : ∃ wo : World, wo = wr := ⟨_, rfl⟩
  by_cases hlt : k < p.ms.length
  ·obtain ⟨b, o, rfl, hsz2, hm0, hm1, hm2, kv, hm3, hcode⟩ := HMX.out k hlt
   have hx0 := HU.out.cell hm0 (by simp)
   have hx1 := HU.out.cell hm1 (by simp)
   have hx2 := HU.out.cell hm2 (by simp)
   have hx3 := HU.out.cell hm3 (by simp)
   have hcl2 := HK.out k hlt
   have hcode2 := hcode.upd HU.out
   have HTK : Hid (p.ms.take (k + 1) = p.ms.take k ++ [p.ms.getD k default]) := by
    show _ = _
    rw [List.take_succ_eq_append_getElem hlt, List.getD_eq_getElem?_getD, List.getElem?_eq_getElem hlt]; rfl
   clear hm0 hm1 hm2 hm3 hcode hsz2
   generalize p.ms.getD k default = m at hx0 hx1 hx2 hx3 hcl2 hcode2 HTK
   obtain ⟨ka, kc, rfl, hkl, hkm, hkx⟩ := hcode2
   have hcode2 : CodeAt wo (.slice ka m.code.length kc) m.code := ⟨ka, kc, rfl, hkl, hkm, hkx⟩
   clear hkl hkm hkx
   have hau := (Upd.refl [] wo).alloc (.cells #[.string m.params, .string m.locals, .string m.ret, .slice ka m.code.length kc] 32)
   have hmb := heap_alloc_new wo (.cells #[.string m.params, .string m.locals, .string m.ret, .slice ka m.code.length kc] 32)
   have hob2 := hau.heap hob1 (by simp)
   have hcode3 := hcode2.upd hau
   have HOM3 := Lib.hid (HOM.out.upd hau)
   have HU3 := Lib.hid (HU.out.trans hau)
   have HA3 := Lib.hid hau
   have hobl := lt_of_heap hob1
   go_upto_region 5 with fail
   generalize wo.alloc (.cells #[.string m.params, .string m.locals, .string m.ret, .slice ka m.code.length kc] 32) = w3 at hmb hob2 hcode3 HOM3 HU3 HA3 ⊢
   have HVL : Hid (∀ q, v.ownBlock = some q → ob + 1 ≤ q ∧ q < wo.heap.size) := fun q hq => ⟨(HOM.out.blk q hq).1, (HOM.out.blk q hq).2.1⟩
   have hmbl : ob < wo.heap.size := hobl
   generalize wo.heap.size = mb at hmb hmbl HVL HVB ⊢
   have y3 : w3.cell? ⟨mb, 3, none⟩ = some (.slice ka m.code.length kc) := by rw [cell_of hmb]; rfl
   have f3 := froz_of hmb 3
   clear hx0 hx1 hx2 hx3 hcode2 hau hobl hob1
   go_wp2_with fail
   refine (cloneI_any _ m.code w3 hcode3 (by omega)).mono ?_
   rintro e w4 ⟨kv', rfl, hc4, hcb4, hu4⟩
   have hc4' := hc4
   obtain ⟨ka', kc', rfl, _⟩ := hc4'
   have hmb4 := hu4.heap hmb (by simp)
   have hob4 := hu4.heap hob2 (by simp)
   have y3 := hu4.cell y3 (by simp)
   have f3 := froz_of hmb4 3
   have hsm := lt_of_heap hmb
   have hst : Upd [mb] w4 (w4.setCell ⟨mb, 3, none⟩ (.slice ka' m.code.length kc')) := (Upd.refl _ _).setCell (.inl (by simp)) _
   have hmb5 := heap_setCell hmb4 3 (.slice ka' m.code.length kc')
   have hob5 := hst.heap hob4 (by simp; omega)
   have hkl3 : (p.ms.take k).length = k := by rw [List.length_take]; omega
   have HOM5 := Lib.hid ((HOM3.out.upd hu4).updT hst (fun q hq hm => by have := HVL.out q hq; simp at hm; omega) (fun i hi b hb hm => by have := HVB.out i (by omega) b hb; simp at hm; omega))
   have hc5 := hc4.upd2 hst (fun b hb hm => by have := hcb4 b hb; simp at hm; omega)
   have HU5 : Hid (Upd [] w _) := (HU3.out.trans hu4).trans' hst (fun q hq hl => by simp at hq; omega)
   have hsz5 : (w4.setCell ⟨mb, 3, none⟩ (.slice ka' m.code.length kc')).heap.size = w4.heap.size := by simp [World.setCell]
   have hz4 := hu4.size
   have HCB5 : Hid (∀ b, codeBlk (.slice ka' m.code.length kc') = some b → mb < b ∧ b < (w4.setCell ⟨mb, 3, none⟩ (.slice ka' m.code.length kc')).heap.size) := fun b hb => by have := hcb4 b hb; omega
   have HMS : Hid (mb < (w4.setCell ⟨mb, 3, none⟩ (.slice ka' m.code.length kc')).heap.size) := by show _ < _; omega
   have HCC5 := Lib.hid (((HCC.out.upd HA3.out).upd hu4).upd2 hst (fun b hb hm => by have := HLO.out b hb; simp at hm; omega))
   have HRB5 := Lib.hid (hst.heap (hu4.heap (HA3.out.heap HRB.out (by simp)) (by simp)) (by simp; omega))
   have hst' := Lib.hid hst
   go_upto_region 6 with fail
   clear hst y3 f3 hmb4 hob4 hc4 hcb4 hu4 hz4 hsz5 hsm hcode3 HU3 HOM3 hob2 hmb
   generalize w4.setCell ⟨mb, 3, none⟩ (.slice ka' m.code.length kc') = w5 at hmb5 hob5 HOM5 hc5 HU5 HCB5 HMS HCC5 HRB5 ⊢
   obtain ⟨vp, vc, rfl⟩ := HOM5.out.shape
   rw [hkl3] at hob5
   have y0 : w5.cell? ⟨mb, 0, none⟩ = some (.string m.params) := by rw [cell_of hmb5]; rfl
   have y1 : w5.cell? ⟨mb, 1, none⟩ = some (.string m.locals) := by rw [cell_of hmb5]; rfl
   have y2 : w5.cell? ⟨mb, 2, none⟩ = some (.string m.ret) := by rw [cell_of hmb5]; rfl
   have y3 : w5.cell? ⟨mb, 3, none⟩ = some (.slice ka' m.code.length kc') := by rw [cell_of hmb5]; rfl
   have q1 : w5.cell? ⟨ob, 1, none⟩ = some (.slice vp k vc) := by rw [cell_of hob5]; rfl
   go_wp2_with (at_builtin; refine stop_here ?_)
   refine Hid.mk ?_
   have ha6 := (Upd.refl [] w5).alloc (.cells #[.string m.params, .string m.locals, .string m.ret, .slice ka' m.code.length kc'] 32)
   have hn6 := heap_alloc_new w5 (.cells #[.string m.params, .string m.locals, .string m.ret, .slice ka' m.code.length kc'] 32)
   have hrow := (HOM5.out.upd ha6).row
   rw [hkl3] at hrow
   have hobl5 := lt_of_heap hob5
   refine (wpList_append_src rfl _ _ 33 rfl (ob + 1) 32 i0 _ 4 72 Tryd.underlying33 HI.out HZ0.out HZ1.out HZ2.out rfl (by decide) _ _ _ rfl hrow _ 1 [.string m.params, .string m.locals, .string m.ret, .slice ka' m.code.length kc'] rfl (.inr ⟨_, _, rfl, fun j u hu => by
    rw [Addr.add_lit, Nat.zero_add, cell_of hn6]
    simpa using hu⟩) (by simp) (by simp [Value.oneCell']) (by unfold maxLen; omega) (by omega) (by simp; omega) ?_)
   intro v' w7 hown hgr hat
   have hvk : (Value.slice vp (p.ms.take k).length vc) = .slice vp k vc := by rw [hkl3]
   have hat2 : v'.ownBlock = (Value.slice vp k vc).ownBlock ∨ v'.ownBlock = some (w5.alloc (.cells #[.string m.params, .string m.locals, .string m.ret, .slice ka' m.code.length kc'] 32)).heap.size := hat
   have hgr2 : (w5.alloc (.cells #[.string m.params, .string m.locals, .string m.ret, .slice ka' m.code.length kc'] 32)).grownBy w7 (Value.slice vp k vc).ownBlock := hgr
   rw [← hvk] at hat2 hgr2
   have hwb := ((Upd.refl _ w5).alloc (.cells #[.string m.params, .string m.locals, .string m.ret, .slice ka' m.code.length kc'] 32)).grown hgr2 (fun q hq => Or.inl (Option.mem_toList.2 hq))
   have HOM7 := HOM5.out.push hc5 (fun b hb => ⟨fun e => by have := HVL.out b e; have := HCB5.out b hb; omega, (HCB5.out b hb).2⟩) (fun i hi b hb => by have := HVB.out i (by omega) b hb; have := HMS.out; omega) (by rw [hkl3]; exact hown) hgr2 hat2
   have hno : ∀ q, q ≤ ob → q ∉ (Value.slice vp (p.ms.take k).length vc).ownBlock.toList := fun q hq hm => by have := HVL.out q (Option.mem_toList.1 hm); omega
   have hob7 := hwb.heap hob5 (hno _ (Nat.le_refl _))
   have hz7 := hwb.size
   have HRB7 := hwb.heap HRB5.out (hno _ (by omega))
   have HCC7 := HCC5.out.upd2 hwb (fun b hb => hno b (by have := HLO.out b hb; omega))
   have HU7 : Upd [] w w7 := HU5.out.trans' hwb (fun q hq hl => by have := HVL.out q (Option.mem_toList.1 hq); omega)
   rw [← HTK.out] at HOM7
   obtain ⟨p7, c7, rfl⟩ := HOM7.shape
   have hk7 : (p.ms.take (k + 1)).length = k + 1 := by rw [List.length_take]; omega
   have q7 : w7.cell? ⟨ob, 1, none⟩ = some (.slice vp k vc) := by rw [cell_of hob7]; rfl
   have f7 := froz_of hob7 1
   have hst7 : Upd [ob] w7 (w7.setCell ⟨ob, 1, none⟩ (.slice p7 (p.ms.take (k + 1)).length c7)) := (Upd.refl _ _).setCell (.inl (by simp)) _
   have HOB8 := Lib.hid (heap_setCell hob7 1 (.slice p7 (p.ms.take (k + 1)).length c7))
   have HOM8 := Lib.hid (HOM7.updT hst7 (fun q hq hm => by have := (HOM7.blk q hq).1; simp at hm; omega) (fun i hi b hb hm => by
    simp at hm
    subst hm
    by_cases e : i < k
    ·have e1 : (vs ++ [Value.slice ka' m.code.length kc']).getD i undef = vs.getD i undef := by
      have := HOM5.out.len
      rw [List.getD_eq_getElem?_getD, List.getD_eq_getElem?_getD, List.getElem?_append_left (by omega)]
     rw [e1] at hb
     have := HVB.out i e b hb
     omega
    ·have hl := HOM5.out.len
     have e2 : i = vs.length := by omega
     have e1 : (vs ++ [Value.slice ka' m.code.length kc']).getD i undef = Value.slice ka' m.code.length kc' := by rw [e2]; simp [List.getD_eq_getElem?_getD]
     rw [e1] at hb
     have := HCB5.out b hb
     omega))
   have HRB8 := Lib.hid (hst7.heap HRB7 (by simp; omega))
   have HCC8 := Lib.hid (HCC7.upd2 hst7 (fun b hb hm => by have := HLO.out b hb; simp at hm; omega))
   have HU8 : Hid (Upd [] w _) := HU7.trans' hst7 (fun q hq hl => by simp at hq; omega)
   have HVB8 : Hid (∀ i, i < k + 1 → ∀ b, codeBlk ((vs ++ [Value.slice ka' m.code.length kc']).getD i undef) = some b → ob < b ∧ b < (w7.setCell ⟨ob, 1, none⟩ (.slice p7 (p.ms.take (k + 1)).length c7)).heap.size) := fun i hi b hb => by
    have hs8 : (w7.setCell ⟨ob, 1, none⟩ (.slice p7 (p.ms.take (k + 1)).length c7)).heap.size = w7.heap.size := by simp [World.setCell]
    have hl := HOM5.out.len
    have hms := HMS.out
    by_cases e : i < k
    ·have e1 : (vs ++ [Value.slice ka' m.code.length kc']).getD i undef = vs.getD i undef := by
      rw [List.getD_eq_getElem?_getD, List.getD_eq_getElem?_getD, List.getElem?_append_left (by omega)]
     rw [e1] at hb
     have := HVB.out i e b hb
     omega
    ·have e2 : i = vs.length := by omega
     have e1 : (vs ++ [Value.slice ka' m.code.length kc']).getD i undef = Value.slice ka' m.code.length kc' := by rw [e2]; simp [List.getD_eq_getElem?_getD]
     rw [e1] at hb
     have := HCB5.out b hb
     omega
   have HOB9 : Hid ((w7.setCell ⟨ob, 1, none⟩ (.slice p7 (p.ms.take (k + 1)).length c7)).heap[ob]? = some (.cells #[.slice ca' p.cs.length cc', .slice p7 (p.ms.take (k + 1)).length c7] 36)) := by
    show _ = _
    rw [HOB8.out]
    simp
   clear hown hgr hat hat2 hgr2 hwb hob7 hz7 HRB7 HCC7 HU7 HOM7 hst7 hvk hno hrow hn6 ha6 hmb5 hob5 hc5 y0 y1 y2 y3 q1
   rw [hk7] at HOB9 HOM8 HRB8 HCC8 HU8 HVB8 ⊢
   go_wp2_with fail
   go_roundw
   case rel => exact ⟨k + 1, _, _, by omega, by go_num, HOM8.out, HOB9.out, HRB8.out, HVB8.out, HCC8.out, HU8.out⟩
   case measure => simp [intOf]; omega
  ·obtain rfl : k = p.ms.length := by omega
   have HTA : Hid (p.ms.take p.ms.length = p.ms) := List.take_length
   have HOM2 : Hid (OwnM wo (ob + 1) v p.ms vs) := HTA.out ▸ HOM.out
   obtain ⟨vp, vc, rfl⟩ := HOM2.out.shape
   have r0 : wo.cell? ⟨w.heap.size + 1, 0, none⟩ = some (.slice none 0 0) := by rw [cell_of HRB.out]; rfl
   have r1 : wo.cell? ⟨w.heap.size + 1, 1, none⟩ = some (.slice none 0 0) := by rw [cell_of HRB.out]; rfl
   have y0 := froz_of HRB.out 0
   have y1 := froz_of HRB.out 1
   have q0 : wo.cell? ⟨ob, 0, none⟩ = some (.slice ca' p.cs.length cc') := by rw [cell_of hob1]; rfl
   have q1 : wo.cell? ⟨ob, 1, none⟩ = some (.slice vp p.ms.length vc) := by rw [cell_of hob1]; rfl
   clear hob1
   go_wp2_with fail
   have k1 := heap_setCell HRB.out 0 (.slice ca' p.cs.length cc')
   have k2 := heap_setCell k1 1 (.slice vp p.ms.length vc)
   have d0 := cell_of k2 0
   have d1 := cell_of k2 1
   simp at d0 d1
   have hu3 : Upd [w.heap.size + 1] wo ((wo.setCell ⟨w.heap.size + 1, 0, none⟩ (.slice ca' p.cs.length cc')).setCell ⟨w.heap.size + 1, 1, none⟩ (.slice vp p.ms.length vc)) :=
    ((Upd.refl _ wo).setCell (.inl (by simp)) _).setCell (.inl (by simp)) _
   refine bodyPost_ret (v := .agg #[.slice ca' p.cs.length cc', .slice vp p.ms.length vc]) (by simp [results, Tryd.results15, go_sem, d0, d1]) rfl ?_
   refine ⟨_, _, rfl, HCC.out.upd2 hu3 (fun q hq hm => by have := HLO.out q hq; simp at hm; omega), (HOM2.out.updT hu3 (fun q hq hm => by have := (HOM2.out.blk q hq).1; simp at hm; omega) (fun i hi b hb hm => by have := HVB.out i hi b hb; simp at hm; omega)).meths (fun i hi => by obtain ⟨_, _, _, h, _⟩ := HMX.out i hi; exact h), HU.out.trans' hu3 (fun i hi hl => by simp at hi; omega)⟩
end Go.Proofs.YtojobkhidlfeoaaDoor
