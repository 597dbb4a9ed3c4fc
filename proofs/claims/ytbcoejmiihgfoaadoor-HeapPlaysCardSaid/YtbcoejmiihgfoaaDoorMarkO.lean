/- Marked, Objects: the numbers of a set as a row of one's own. Objects: all objects' numbers, rising. -/
import Derived.Test.YtbcoejmiihgfoaaDoorEach
import Derived.Test.YtbcoejmiihgfoaaDoorOwnI
import Derived.Test.YtbcoejmiihgfoaaDoorAny
/-! Marked, Objects: the numbers of a set as a row of one's own. -/
namespace Go.Proofs.YtbcoejmiihgfoaaDoor
open Go.RowKit Go.Shelf

attribute [local go_sem] Oper.semAt_some

theorem keepB_of_below {g n₀ : Nat} {W W' : World} (hg : g < n₀) (ht : 1 < n₀) (h : Below n₀ W W') : KeepB g W W' := ⟨h.block g hg, h.block _ ht, h.size⟩

/-- Places as numbers of objects. -/
def plus1 (l : List Nat) : List Int := l.map fun (i : Nat) => (i : Int) + 1

set_option maxRecDepth 100000 in
set_option maxHeartbeats 2000000 in
theorem marked_any (L : HL) (cv mv : Value) (S : Hp) (w : World) (h : HpAt w L cv mv S) (hT : TzAt w) :
  Calls Tryd.prog 21 #[.pointer (some ⟨L.hb, 0, none⟩)] w fun e w' => ∃ u, e = .returned u ∧ OwnI w' w.heap.size 3 u (plus1 (blist S.mr)) ∧ Upd [] w w' := by
 have hlt := h.lt
 have hlA := h.ok.len
 have hl : S.mr.length ≤ 1024 := by have := h.mr.2.2.2.1; omega
 have hbl : (blist S.mr).length ≤ 65536 := by have := bupto_len S.mr (64 * S.mr.length); unfold blist; omega
 have c14 := h.c14
 obtain ⟨i0, hi, hz0, hz1, hz2⟩ := info_parts Tryd.infoInt
 have hmr := h.mr
 have htl := hT.lt
 refine (callsIn_wide (n := 5)).1 ?_
 refine callsIn_of_wp_marks Tryd.func21 rfl trivial ?_ rfl
 simp only [Tryd.ntmps21, List.size_toArray, List.length_cons, List.length_nil, Nat.reduceAdd, Nat.reduceSub, Array.replicate_succ, Array.replicate_zero, List.push_toArray, List.append_toArray, List.nil_append, List.cons_append]
 gi_wp2
 refine ⟨trivial, (callsIn_wide.2 (each_any _ _)).mono ?_⟩
 rintro e w' ⟨rfl, rfl⟩
 gi_wp2
 have bO := Boxed.new w 29 (.slice none 0 0)
 have bN := Boxed.new (w.alloc (.cells #[.slice none 0 0] 29)) 82 (.pointer (some ⟨L.mb, 0, none⟩))
 rw [World.size_alloc] at bN
 have hB0 : Below w.heap.size w ((w.alloc (.cells #[.slice none 0 0] 29)).alloc (.cells #[.pointer (some ⟨L.mb, 0, none⟩)] 82)) := ((Below.refl _ w).alloc (Nat.le_refl _) _).alloc (by simp) _
 have hU0 := Upd.of_below hB0
 refine wpIn_rangeFunc_ownG rfl (by omega) (gf := 56) (lb := #[.pointer (some ⟨w.heap.size + 1, 0, none⟩)]) rfl trivial (enters_of Tryd.func56 (by kernel_rfl) rfl)
  (each_stops 4 (by omega) (w.heap.size + 1) L.mb L.mw S.A.length S.mr _ bN.cell (hmr.upd hU0 (by simp) (by simp)) (hT.upd hU0 (by simp))) (fun a b => a.trans b) (keepB_b (by rw [World.size_alloc, World.size_alloc]; omega) (by rw [World.size_alloc, World.size_alloc]; omega)) (Below.refl _ _) (fun _ => rfl)
  (fun (pre : List (Inb S.mr)) W => (∃ v, Boxed W w.heap.size 29 v ∧ W.ownsRow w.heap.size 3 1 v (plus1 (pre.map Subtype.val)).length ((plus1 (pre.map Subtype.val)).map (Value.int .i64)) ∧ True) ∧ Below w.heap.size w W)
  (fun _ _ _ => False)
  (OwnFrom.and (Own.from (holdsRow_own w.heap.size w.heap.size 29 3 1 (fun (pre : List (Inb S.mr)) => (plus1 (pre.map Subtype.val)).length) (fun (pre : List (Inb S.mr)) => (plus1 (pre.map Subtype.val)).map (Value.int .i64)) (fun _ _ => True)) _) (ownFrom_below (Nat.le_refl _) (by simp; omega)))
  (fun _ _ _ _ _ hs _ _ => hs)
  ⟨⟨_, bO.alloc _, World.ownsRow_nil _ _ _ _, trivial⟩, hB0⟩
  (fun x : Inb S.mr => { tmps := #[.pointer (some ⟨L.hb, 0, none⟩), undef, .slice none 0 0, .pointer (some ⟨w.heap.size, 0, none⟩), .int .i64 (x.1 : Int), .pointer (some ⟨L.hb, 0, none⟩), .pointer (some ⟨L.hb, 0, none⟩), .pointer (some ⟨L.hb, 14, none⟩), .pointer (some ⟨L.mb, 0, none⟩), .func (.func 56) #[] #[.pointer (some ⟨w.heap.size + 1, 0, none⟩)], .int .i64 (x.1 : Int), undef, undef, undef, undef, undef, undef], defers := [] }) ?assign ?body ?done ?stop
 case assign =>
  intro l x W K hK
  gi_wp2
  exact hK
 case body =>
  rintro l pre x W ⟨⟨v, hv, hrow, _⟩, hB⟩ hlt2
  have hc := hv.cell
  have hpl : (plus1 (pre.map Subtype.val)).length ≤ 65535 := by simp [plus1]; omega
  have hrng : pre.length + 1 ≤ 65536 := by omega
  have hx1 := hmr.2.2.2.2.2 x.1 x.2
  have hx2 := hmr.2.2.1
  gi_wp2_with (gi_at_builtin; refine wpListIn_append_own _ rfl _ _ 29 rfl w.heap.size 3 i0 (.int .i64 0) 1 8 Tryd.underlying29 hi hz0 hz1 hz2 rfl (by decide) _ _ _ rfl (hrow.alloc _) ⟨W.heap.size, 0, none⟩ 1 1 [.int .i64 ((x.1 : Int) + 1)] rfl rfl (cell_one_new _ _ _) (by simp [Value.oneCell']) (by unfold maxLen; omega) (by omega) (by have := hB.size; simp; omega) ?_; intro v' w1 hown' hgrow _; obtain ⟨g', cap', rfl⟩ := ownsRow_succ hown'; obtain ⟨hv1, hv2, hr2, hk2, hb2⟩ := hv.appended (by decide) hrow hB.size (Nat.le_refl _) hown' hgrow; have hc1 := hv1.cell; have hf1 := hv1.frozen)
  refine ⟨hk2.from _, keepB_of_below (lt_of_heap hmr.2.1) htl hb2, ⟨_, hv2, ?_, trivial⟩, hB.trans hb2⟩
  have e : plus1 ((pre ++ [x]).map Subtype.val) = plus1 (pre.map Subtype.val) ++ [(x.1 : Int) + 1] := by simp [plus1]
  rw [e, List.map_append, List.length_append]
  exact hr2
 case done =>
  rintro D ys W hD hys ⟨⟨v, hv, hrow, _⟩, hB⟩ hK
  have hc := hv.cell
  rw [hys] at hrow
  gi_wp2
  refine ⟨by simp, .inl ⟨_, _, rfl, run_takeDeferred hK, ?_⟩⟩
  exact ⟨_, results_tmp rfl _ _ _, v, rfl, ownsRow_putObj hrow _ hK rfl, Upd.of_below (hB.trans (belowK_b (w := w) (Nat.le_refl _) W D _ _ (by simp at hD; omega) hK rfl rfl))⟩
 case stop =>
  rintro D c pre W _ _ h _
  exact h.elim

end Go.Proofs.YtbcoejmiihgfoaaDoor
