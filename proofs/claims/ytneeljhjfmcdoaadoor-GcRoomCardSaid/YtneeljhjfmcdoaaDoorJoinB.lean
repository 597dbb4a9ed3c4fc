/- bits.Set.Join: what is in another set is put in. -/
import Derived.Test.YtneeljhjfmcdoaaDoorCloneB
import Derived.Test.YtneeljhjfmcdoaaDoorDropA
import Derived.RangeFuncNested
namespace Go.Proofs.YtneeljhjfmcdoaaDoor
open Go.RowKit Go.Shelf

attribute [local go_sem] Oper.semAt_some

theorem add_r (b g n p : Nat) (ws : List Nat) (w : World) (h : SetAt w b g n ws) :
    Calls Tryd.prog 39 #[.pointer (some ⟨b, 0, none⟩), .int .i64 p] w fun e w' => ∃ ws', e = .returned (.bool (decide (p < n) && !bhas ws p)) ∧ SetAt w' b g n ws' ∧ (∀ q, bhas ws' q = (bhas ws q || (decide (p < n) && decide (p = q)))) ∧ Upd [g] w w' := by
  by_cases h0 : n ≤ p
  · refine (add_out b g n p ws w h (.inr (by omega))).mono ?_
    rintro e w' ⟨rfl, rfl⟩
    refine ⟨ws, by rw [decide_eq_false (by omega), Bool.false_and], h, fun q => ?_, Upd.refl _ _⟩
    rw [decide_eq_false (by omega : ¬ p < n), Bool.false_and, Bool.or_false]
  · have hk : p < n := by omega
    cases hh : bhas ws p
    · refine (add_new b g n p ws w h hk hh).mono ?_
      rintro e w' ⟨rfl, h1, h2⟩
      refine ⟨_, by simp [hk], h1, fun q => ?_, h2⟩
      rw [badd_get ws p q (by have := h.2.2.2.1; omega)]
      simp [hk]
    · refine (add_old b g n p ws w h hk hh).mono ?_
      rintro e w' ⟨rfl, rfl⟩
      refine ⟨ws, by simp, h, fun q => ?_, Upd.refl _ _⟩
      by_cases e : p = q
      · subst e; simp [hh]
      · simp [e]

theorem keepsFrom_upd {S : List Nat} {W W' : World} {B : Nat} (h : Upd S W W') (hS : ∀ k ∈ S, k < B) : KeepsFrom B W W' :=
  ⟨h.size, fun k o hB hk _ => (h.block k (lt_of_heap hk) (fun hm => by have := hS k hm; omega)).trans hk⟩
/-- The state of the join: those so far are in. -/
structure JoinSt (w0 : World) (ab b g n : Nat) (ws : List Nat) (pre : List Nat) (W : World) : Prop where
  st : ∃ ws' av, SetAt W b g n ws' ∧ (∀ p, bhas ws' p = (bhas ws p || (decide (p < n) && decide (p ∈ pre)))) ∧ (av = true → ∃ p, bhas ws' p = true ∧ bhas ws p = false) ∧ (av = false → ∀ p, bhas ws' p = bhas ws p) ∧ W.heap[ab]? = some (.cells #[.bool av] 4)
  up : Upd [g, ab] w0 W

set_option maxRecDepth 100000 in
set_option maxHeartbeats 2000000 in
theorem bjoin_any (b g n b2 g2 n2 : Nat) (ws vs : List Nat) (w : World) (h : SetAt w b g n ws) (h2 : SetAt w b2 g2 n2 vs) (hT : TzAt w) (hgt : g ≠ 1) (hn : n2 ≤ 65536) :
    Calls Tryd.prog 90 #[.pointer (some ⟨b, 0, none⟩), .pointer (some ⟨b2, 0, none⟩)] w fun e w' => ∃ av ws', e = .returned (.bool av) ∧ SetAt w' b g n ws' ∧ (∀ p, bhas ws' p = (bhas ws p || (decide (p < n) && bhas vs p))) ∧ (av = true → ∃ p, bhas ws' p = true ∧ bhas ws p = false) ∧ (av = false → ∀ p, bhas ws' p = bhas ws p) ∧ Upd [g] w w' := by
  have htl := hT.lt
  have hgl := lt_of_heap h.2.1
  have hbl := lt_of_heap h.1
  have hU2 := ((Upd.refl [] w).alloc (.cells #[.pointer (some ⟨b, 0, none⟩)] 92)).alloc (.cells #[.bool false] 4)
  have hS0 := heap_alloc_new w (.cells #[.pointer (some ⟨b, 0, none⟩)] 92)
  have hS := ((Upd.refl [] (w.alloc (.cells #[.pointer (some ⟨b, 0, none⟩)] 92))).alloc (.cells #[.bool false] 4)).heap hS0 (by simp)
  have hA := heap_alloc_new (w.alloc (.cells #[.pointer (some ⟨b, 0, none⟩)] 92)) (.cells #[.bool false] 4)
  rw [World.size_alloc] at hA
  have HCL := Lib.hid (bclone_any b2 g2 n2 vs _ (h2.upd hU2 (by simp) (by simp)) hn)
  refine (callsIn_wide (n := 5)).1 ?_
  refine callsIn_of_wp_marks Tryd.func90 rfl trivial ?_ rfl
  simp only [Tryd.ntmps90, List.size_toArray, List.length_cons, List.length_nil, Nat.reduceAdd, Nat.reduceSub, Array.replicate_succ, Array.replicate_zero, List.push_toArray, List.append_toArray, List.nil_append, List.cons_append]
  gi_wp2
  refine ⟨trivial, (callsIn_wide.2 HCL.out).mono ?_⟩
  rintro e w1 ⟨cb, cg, cc, rfl, hset1, hcb1, hcg1, hcb2, hcg2, hu1⟩
  gi_wp2
  refine ⟨trivial, (callsIn_wide.2 (each_any _ _)).mono ?_⟩
  rintro e w' ⟨rfl, rfl⟩
  gi_wp2
  have hz0 : ((w.alloc (.cells #[.pointer (some ⟨b, 0, none⟩)] 92)).alloc (.cells #[.bool false] 4)).heap.size = w.heap.size + 2 := by simp
  have hz1 := hu1.size
  have hU3 := hu1.trans ((Upd.refl [] w1).alloc (.cells #[.pointer (some ⟨cb, 0, none⟩)] 92))
  have hU := hU2.trans hU3
  have hS2 := hU3.heap hS (by simp)
  have hA2 := hU3.heap hA (by simp)
  have hE := heap_alloc_new w1 (.cells #[.pointer (some ⟨cb, 0, none⟩)] 92)
  have hset2 := hset1.upd ((Upd.refl [] w1).alloc (.cells #[.pointer (some ⟨cb, 0, none⟩)] 92)) (by simp) (by simp)
  have hzE : (w1.alloc (.cells #[.pointer (some ⟨cb, 0, none⟩)] 92)).heap.size = w1.heap.size + 1 := by simp
  have hT2 := hT.upd hU (by simp)
  have hs2 := h.upd hU (by simp) (by simp)
  have HU := Lib.hid hU
  clear hset1 HCL hU2 hU3 hS hA hS0 hu1
  generalize w1.alloc (.cells #[.pointer (some ⟨cb, 0, none⟩)] 92) = w2 at *
  generalize w1.heap.size = eb at *
  refine wpIn_rangeFunc_ownG rfl (by omega) (gf := 80) (lb := #[.pointer (some ⟨eb, 0, none⟩)]) rfl trivial (enters_of Tryd.func80 (by kernel_rfl) rfl)
    (each_stopsC 4 (by omega) eb cb cg n2 cc vs _ (cell_of hE 0) hset2 hT2) (fun a b => a.trans b) (keepB_b (by omega) (by omega)) (Below.refl _ _) (fun _ => rfl)
    (fun (pre : List (Inb vs)) W => JoinSt w2 (w.heap.size + 1) b g n ws (pre.map Subtype.val) W)
    (fun _ _ _ => False) ?own
    (fun _ _ _ _ _ hs _ _ => hs)
    ⟨⟨ws, false, hs2, fun p => by simp, fun h => by simp at h, fun _ _ => rfl, hA2⟩, Upd.refl _ _⟩
    (fun x : Inb vs => { tmps := #[.pointer (some ⟨b, 0, none⟩), .pointer (some ⟨b2, 0, none⟩), .pointer (some ⟨w.heap.size, 0, none⟩), undef, .bool false, .pointer (some ⟨w.heap.size + 1, 0, none⟩), .int .i64 (x.1 : Int), .pointer (some ⟨b2, 0, none⟩), .pointer (some ⟨cb, 0, none⟩),
      .func (.func 80) #[] #[.pointer (some ⟨eb, 0, none⟩)], .int .i64 (x.1 : Int), undef, undef, undef, undef, undef, undef, undef], defers := [] }) ?assign ?body ?done ?stop
  case own =>
    rintro pre W W' row ⟨⟨ws', av, h1, h3, h4, h5, h6⟩, h7⟩ hg hr
    have hu : Upd row.toList W W' := (Upd.refl _ W).grown hg (fun k hk => .inl (by simp [hk]))
    have hlt : ∀ k, k < w2.heap.size → k ∉ row.toList := fun k hk hm => by
      have := (hr k (Option.mem_toList.1 hm)).1; omega
    exact ⟨⟨ws', av, h1.upd hu (hlt b (by omega)) (hlt g (by omega)), h3, h4, h5, hu.heap h6 (hlt _ (by omega))⟩, h7.trans' hu (fun q hq hl => absurd hq (hlt q hl))⟩
  case assign =>
    intro l x W K hK
    gi_wp2
    exact hK
  case body =>
    rintro l pre x W ⟨⟨ws', av, h1, h3, h4, h5, h6⟩, h7⟩ hlt2
    have hcs := h7.cell (cell_of hS2 0) (by simp; omega)
    have HAD := Lib.hid (add_r b g n x.1 ws' W h1)
    have H3 := Lib.hid h3
    have H4 := Lib.hid h4
    have H5 := Lib.hid h5
    have H6 := Lib.hid h6
    have H7 := Lib.hid h7
    have hWs := h7.size
    clear h3 h4 h5 h6 h7
    gi_wp2
    refine ⟨trivial, (callsIn_wide.2 HAD.out).mono ?_⟩
    rintro e W1 ⟨ws2, rfl, h8, h9, hu⟩
    have hav : W1.heap[w.heap.size + 1]? = some (.cells #[.bool av] 4) := hu.heap H6.out (by simp; omega)
    have hac := cell_of hav 0
    have haf := froz_of hav 0
    have hx := x.2
    have H8 := Lib.hid h8
    have H9 := Lib.hid h9
    have HUW := Lib.hid hu
    have hmap : (pre ++ [x]).map Subtype.val = pre.map Subtype.val ++ [x.1] := by simp
    have HMAP := Lib.hid hmap
    have HKEEP : ∀ v, Hid (KeepsFrom w2.heap.size W (W1.setCell ⟨w.heap.size + 1, 0, none⟩ v) ∧ KeepB cg W (W1.setCell ⟨w.heap.size + 1, 0, none⟩ v) ∧ Upd [g, w.heap.size + 1] W (W1.setCell ⟨w.heap.size + 1, 0, none⟩ v) ∧ SetAt (W1.setCell ⟨w.heap.size + 1, 0, none⟩ v) b g n ws2) := by
      intro v
      have hu3 : Upd [g, w.heap.size + 1] W (W1.setCell ⟨w.heap.size + 1, 0, none⟩ v) := (hu.mono (T := [g, w.heap.size + 1]) (by intro i hi _; simp at hi ⊢; exact .inl hi)).setCell (.inl (by simp)) v
      refine ⟨keepsFrom_upd hu3 (fun k hk => by simp at hk; omega), KeepB.of_upd hu3 (by omega) (by simp; omega) (by omega) (by simp only [List.mem_cons, List.not_mem_nil, or_false, not_or]; exact ⟨fun e => hgt e.symm, by omega⟩), hu3, ?_⟩
      exact h8.upd ((Upd.refl [w.heap.size + 1] W1).setCell (.inl (by simp)) v) (by simp; omega) (by simp; omega)
    clear h8 h9 hu hmap
    cases hb : (decide (x.1 < n) && !bhas ws' x.1) with
    | true =>
      have HB := Lib.hid hb
      clear hb
      gi_wp2
      obtain ⟨k1, k2, k3, k4⟩ := (HKEEP (.bool true)).out
      have hb := HB.out
      rw [Bool.and_eq_true, decide_eq_true_eq, Bool.not_eq_true'] at hb
      refine ⟨k1, k2, ⟨ws2, true, k4, fun p => ?_, fun _ => ⟨x.1, ?_, ?_⟩, fun hf => (by cases hf), heap_setCell hav 0 _⟩, H7.out.trans k3⟩
      · rw [H9.out, H3.out, HMAP.out]
        by_cases e : x.1 = p
        · subst e; simp [hb.1]
        · have e2 : ¬ p = x.1 := fun h => e h.symm
          simp [e, e2]
      · rw [H9.out]; simp [hb.1]
      · have h0 := H3.out x.1
        rw [hb.2] at h0
        cases hw : bhas ws x.1 with
        | false => rfl
        | true => rw [hw] at h0; simp at h0
    | false =>
      have HB := Lib.hid hb
      clear hb
      gi_wp2
      obtain ⟨k1, k2, k3, k4⟩ := (HKEEP (.bool av)).out
      have hb := HB.out
      have hsame : ∀ p, bhas ws2 p = bhas ws' p := fun p => by
        rw [H9.out]
        by_cases e : x.1 = p
        · subst e
          cases hxx : decide (x.1 < n) with
          | false => simp
          | true =>
            rw [hxx, Bool.true_and, Bool.not_eq_false'] at hb
            simp [hb]
        · simp [e]
      refine ⟨k1, k2, ⟨ws2, av, k4, fun p => ?_, fun ha => ?_, fun ha p => by rw [hsame, H5.out ha], heap_setCell hav 0 _⟩, H7.out.trans k3⟩
      · rw [hsame, H3.out, HMAP.out]
        by_cases e : p = x.1
        · subst e
          have h0 := hsame x.1
          have h1 := H3.out x.1
          cases hxx : decide (x.1 < n) with
          | false => simp
          | true =>
            rw [hxx, Bool.true_and, Bool.not_eq_false'] at hb
            rw [hb, hxx] at h1
            rw [Bool.true_and] at h1 ⊢
            rw [← h1]
            simp
        · simp [e]
      · obtain ⟨p, q1, q2⟩ := H4.out ha
        exact ⟨p, by rw [hsame]; exact q1, q2⟩
  case done =>
    rintro D ys W hD hys ⟨⟨ws', av, h1, h3, h4, h5, h6⟩, h7⟩ hK
    rw [hys] at h3
    have hac := cell_of h6 0
    have H3 := Lib.hid h3
    have H4 := Lib.hid h4
    have H5 := Lib.hid h5
    have H7 := Lib.hid h7
    have hW := h7.size
    clear h3 h4 h5 h7
    gi_wp2
    refine ⟨by simp, .inl ⟨_, _, rfl, run_takeDeferred hK, ?_⟩⟩
    have hpo : ∀ o, Upd [D] W (W.putObj D o) := fun o => (Upd.refl [D] W).grown (grownBy_putObj' W D o) (fun k hk => .inl (by injection hk with hk; simp [hk]))
    have hfin : ∀ o, Upd [g] w (W.putObj D o) := fun o => (HU.out.mono (T := [g]) (by simp)).trans' (H7.out.trans' (hpo o) (fun q hq hl => by simp at hq; omega)) (fun q hq hl => by
      simp at hq ⊢
      omega)
    exact ⟨_, results_tmp rfl _ _ _, av, ws', rfl, h1.upd (hpo _) (by simp; omega) (by simp; omega), fun p => by rw [H3.out]; congr 2; rw [Bool.eq_iff_iff]; simp [mem_blist], H4.out, H5.out, hfin _⟩
  case stop =>
    rintro D c pre W _ _ h _
    exact h.elim
end Go.Proofs.YtneeljhjfmcdoaaDoor
