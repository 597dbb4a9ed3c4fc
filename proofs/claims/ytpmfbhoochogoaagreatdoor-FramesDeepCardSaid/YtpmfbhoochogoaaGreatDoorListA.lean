/- bits.Set.List: the numbers of a set, rising. -/
import Derived.Test.YtpmfbhoochogoaaGreatDoorJoinB
import Derived.Test.YtpmfbhoochogoaaGreatDoorEach
import Derived.Test.YtpmfbhoochogoaaGreatDoorOwnI
import Derived.Test.YtpmfbhoochogoaaGreatDoorOwnNe
import Derived.Test.YtpmfbhoochogoaaGreatDoorCleanL
import Derived.RangeFuncNested
namespace Go.Proofs.YtpmfbhoochogoaaGreatDoor
open Go.RowKit Go.Shelf

attribute [local go_sem] Oper.semAt_some

theorem cell_one_newL (w : World) (v : Value) (t : TypeId) : ∀ j u, [v][j]? = some u → (w.alloc (.cells #[v] t)).cell? ((⟨w.heap.size, 0, none⟩ : Addr).add j) = some u := by
  intro j u hj
  rw [Addr.add_lit, Nat.zero_add, cell_of (heap_alloc_new w _)]
  simpa using hj
theorem keepB_of_below {g n₀ : Nat} {W W' : World} (hg : g < n₀) (ht : 10 < n₀) (h : Below n₀ W W') : KeepB g W W' := ⟨h.block g hg, h.block _ ht, h.size⟩

set_option maxRecDepth 100000 in
set_option maxHeartbeats 2000000 in
theorem list_any (b g n : Nat) (ws : List Nat) (w : World) (h : SetAt w b g n ws) (hT : TzAt w) (hn : n ≤ 10000) :
    Calls Tryz.prog 69 #[.pointer (some ⟨b, 0, none⟩)] w fun e w' => ∃ u, e = .returned u ∧ OwnI w' w.heap.size 3 u (ints (blist ws)) ∧ Upd [] w w' := by
  have hl : ws.length ≤ 1024 := by have := h.2.2.2.1; omega
  have hbl : (blist ws).length ≤ 65536 := by have := bupto_len ws (64 * ws.length); unfold blist; omega
  obtain ⟨i0, hi, hz0, hz1, hz2⟩ := info_parts Tryz.infoInt
  have htl := hT.lt
  have hgl := lt_of_heap h.2.1
  have hbl2 := lt_of_heap h.1
  refine (callsIn_wide (n := 5)).1 ?_
  refine callsIn_of_wp_marks Tryz.func69 rfl trivial ?_ rfl
  simp only [Tryz.ntmps69, List.size_toArray, List.length_cons, List.length_nil, Nat.reduceAdd, Nat.reduceSub, Array.replicate_succ, Array.replicate_zero, List.push_toArray, List.append_toArray, List.nil_append, List.cons_append]
  gi_wp2
  refine ⟨trivial, (callsIn_wide.2 (each_any _ _)).mono ?_⟩
  rintro e w' ⟨rfl, rfl⟩
  gi_wp2
  have bO := Boxed.new w 42 (.slice none 0 0)
  have bN := Boxed.new (w.alloc (.cells #[.slice none 0 0] 42)) 148 (.pointer (some ⟨b, 0, none⟩))
  rw [World.size_alloc] at bN
  have hB0 : Below w.heap.size w ((w.alloc (.cells #[.slice none 0 0] 42)).alloc (.cells #[.pointer (some ⟨b, 0, none⟩)] 148)) := ((Below.refl _ w).alloc (Nat.le_refl _) _).alloc (by simp) _
  have hU0 := Upd.of_below hB0
  refine wpIn_rangeFunc_ownG rfl (by omega) (gf := 112) (lb := #[.pointer (some ⟨w.heap.size + 1, 0, none⟩)]) rfl trivial (enters_of Tryz.func112 (by kernel_rfl) rfl)
    (each_stops 4 (by omega) (w.heap.size + 1) b g n ws _ bN.cell (h.upd hU0 (by simp) (by simp)) (hT.upd hU0 (by simp))) (fun a b => a.trans b) (keepB_b (by rw [World.size_alloc, World.size_alloc]; omega) (by rw [World.size_alloc, World.size_alloc]; omega)) (Below.refl _ _) (fun _ => rfl)
    (fun (pre : List (Inb ws)) W => (∃ v, Boxed W w.heap.size 42 v ∧ W.ownsRow w.heap.size 3 1 v (ints (pre.map Subtype.val)).length ((ints (pre.map Subtype.val)).map (Value.int .i64)) ∧ True) ∧ Below w.heap.size w W)
    (fun _ _ _ => False)
    (OwnFrom.and (Own.from (holdsRow_own w.heap.size w.heap.size 42 3 1 (fun (pre : List (Inb ws)) => (ints (pre.map Subtype.val)).length) (fun (pre : List (Inb ws)) => (ints (pre.map Subtype.val)).map (Value.int .i64)) (fun _ _ => True)) _) (ownFrom_below (Nat.le_refl _) (by simp; omega)))
    (fun _ _ _ _ _ hs _ _ => hs)
    ⟨⟨_, bO.alloc _, World.ownsRow_nil _ _ _ _, trivial⟩, hB0⟩
    (fun x : Inb ws => { tmps := #[.pointer (some ⟨b, 0, none⟩), undef, .slice none 0 0, .pointer (some ⟨w.heap.size, 0, none⟩), .int .i64 (x.1 : Int), .pointer (some ⟨b, 0, none⟩), .func (.func 112) #[] #[.pointer (some ⟨w.heap.size + 1, 0, none⟩)], .int .i64 (x.1 : Int), undef, undef, undef, undef, undef], defers := [] }) ?assign ?body ?done ?stop
  case assign =>
    intro l x W K hK
    gi_wp2
    exact hK
  case body =>
    rintro l pre x W ⟨⟨v, hv, hrow, _⟩, hB⟩ hlt2
    have hc := hv.cell
    have hpl : (ints (pre.map Subtype.val)).length ≤ 65535 := by simp [ints]; omega
    have hrng : pre.length + 1 ≤ 65536 := by omega
    have hx1 := h.2.2.2.2.2 x.1 x.2
    have hx2 := h.2.2.1
    gi_wp2_with (gi_at_builtin; refine wpListIn_append_own _ rfl _ _ 42 rfl w.heap.size 3 i0 (.int .i64 0) 1 8 Tryz.underlying42 hi hz0 hz1 hz2 rfl (by decide) _ _ _ rfl (hrow.alloc _) ⟨W.heap.size, 0, none⟩ 1 1 [.int .i64 (x.1 : Int)] rfl rfl (cell_one_newL _ _ _) (by simp [Value.oneCell']) (by unfold maxLen; omega) (by omega) (by have := hB.size; simp; omega) ?_; intro v' w1 hown' hgrow _; obtain ⟨g', cap', rfl⟩ := ownsRow_succ hown'; obtain ⟨hv1, hv2, hr2, hk2, hb2⟩ := hv.appended (by decide) hrow hB.size (Nat.le_refl _) hown' hgrow; have hc1 := hv1.cell; have hf1 := hv1.frozen)
    refine ⟨hk2.from _, keepB_of_below hgl htl hb2, ⟨_, hv2, ?_, trivial⟩, hB.trans hb2⟩
    have e : (pre ++ [x]).map Subtype.val = pre.map Subtype.val ++ [x.1] := by simp
    rw [e, ints_snoc, List.map_append, List.length_append]
    exact hr2
  case done =>
    rintro D ys W hD hys ⟨⟨v, hv, hrow, _⟩, hB⟩ hK
    have hc := hv.cell
    rw [hys] at hrow
    gi_wp2
    refine ⟨by simp, .inl ⟨_, _, rfl, run_takeDeferred hK, ?_⟩⟩
    exact ⟨_, results_tmp rfl _ _ _, v, rfl, ownsRow_putObj hrow _ hK rfl, Upd.of_below (hB.trans (belowK_b (w := w) (Nat.le_refl _) W D _ _ (by simp at hD; omega) hK rfl rfl))⟩
  case stop =>
    rintro D c pre W _ _ h _
    exact h.elim

end Go.Proofs.YtpmfbhoochogoaaGreatDoor
