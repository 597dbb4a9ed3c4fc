/- The heap: slices.Clone of its classes; New. -/
import Derived.Test.YtneeljhjfmcdoaaDoorHeap5
namespace Go.Proofs.YtneeljhjfmcdoaaDoor
open Go.RowKit

theorem Tryd.infoClass : (Tryd.prog.info? 44).map (fun i => (i.zero, i.size, i.bytes)) = some (some (.agg #[.string ByteArray.empty]), 1, 16) := by kernel_rfl

set_option maxHeartbeats 800000 in
theorem clone_any (v : Value) (b o : Nat) (cs : List ByteArray) (w : World) (h : ClsAt w v b o cs) (hn : cs.length ≤ 1000) :
    Calls Tryd.prog 47 #[v] w fun e w' => ∃ v' b', e = .returned v' ∧ ClsAt w' v' b' 0 cs ∧ Upd [] w w' ∧ (b' = 0 ∨ w.heap.size ≤ b' ∧ b' < w'.heap.size) := by
  obtain ⟨hv, hc⟩ := h
  rcases hv with ⟨rfl, rfl⟩ | ⟨x, cap, rfl, ha⟩
  · have heq := Lib.run_eql_slice_nil (P := Tryd.prog) w 25 44 none 0 0 0 0 Tryd.underlying25
    go_enter Tryd.func47, Tryd.ntmps47
    go_wp2_with fail
    go_ret
    exact ⟨_, 0, rfl, ⟨.inl ⟨rfl, rfl⟩, by simp⟩, Upd.refl _ _, .inl rfl⟩
  · have heq := Lib.run_eql_slice_nil (P := Tryd.prog) w 25 44 (some x) cs.length cap 0 0 Tryd.underlying25
    obtain ⟨i0, hi, hz0, hz1, hz2⟩ := info_parts Tryd.infoClass
    have HI := Lib.hid hi
    have HZ0 := Lib.hid hz0
    have HZ1 := Lib.hid hz1
    have HZ2 := Lib.hid hz2
    clear hi hz0 hz1 hz2
    have HC := Lib.hid hc
    clear hc
    go_enter Tryd.func47, Tryd.ntmps47
    go_wp2_with (at_builtin; refine stop_here ?_)
    refine Hid.mk ?_
    have hmade := World.ownsRow_made (base := w.heap.size) (e := 44) (size := 1) w #[] 0 (Nat.le_refl _) (by unfold maxLen; omega) rfl
    refine (wpList_append_own _ rfl _ _ 25 rfl w.heap.size 44 i0 (.agg #[.string ByteArray.empty]) 1 16 Tryd.underlying25 HI.out HZ0.out HZ1.out HZ2.out rfl (by decide) _ _ _ rfl hmade x cs.length cap (cs.map Value.string) rfl (by simp) ?c1 ?c2 ?c3 ?c4 ?c5 ?c6)
    case c1 =>
      intro j u hu
      rw [List.getElem?_map] at hu
      rcases ha with rfl | rfl
      · simp at hu
      · obtain ⟨q, hq, rfl⟩ := Option.map_eq_some_iff.1 hu
        have hj : j < cs.length := (List.getElem?_eq_some_iff.1 hq).1
        have h1 := ((Upd.refl [] w).alloc (.cells #[] 44)).cell (HC.out j hj) (by simp)
        rw [Addr.add_lit, h1, List.getD_eq_getElem?_getD, hq]
        rfl
    case c2 =>
      intro u hu
      obtain ⟨q, _, rfl⟩ := List.mem_map.1 hu
      rfl
    case c3 => unfold maxLen; omega
    case c4 => omega
    case c5 => simp
    case c6 =>
      intro v' w6 hown' hgrow hnil
      have hu : Upd [] w w6 := ((Upd.refl [] w).alloc _).grown hgrow (fun q hq => Or.inr (by cases hq; exact Nat.le_refl _))
      have hfin : Hid (∃ g c, v' = .slice (some ⟨g, 0, none⟩) cs.length c ∧ w.heap.size ≤ g ∧ g < w6.heap.size ∧ ClsAt w6 v' g 0 cs) := by
        rcases hown'.2 with ⟨hv, _⟩ | ⟨g, c, cur, hv, hbg, hgg, _⟩
        · have := (hnil.1 hv).1
          cases this
        · rw [Nat.zero_add] at hv
          refine ⟨g, c, hv, hbg, lt_of_heap hgg, .inr ⟨_, _, hv, .inr rfl⟩, fun i hi => ?_⟩
          have h1 := hown'.cells (g := g) (by rw [hv]; rfl) i (.string (cs.getD i ByteArray.empty)) (by
            rw [List.nil_append, List.getElem?_map, List.getElem?_eq_getElem hi, List.getD_eq_getElem?_getD, List.getElem?_eq_getElem hi]
            rfl)
          rwa [Addr.add_lit] at h1
      clear hown' hgrow hnil
      go_wp2_with fail
      go_ret
      obtain ⟨g, c, hv, h1, h2, h3⟩ := hfin.out
      exact ⟨_, g, rfl, h3, hu, .inr ⟨h1, h2⟩⟩

/-- The numbers of a new heap. -/
def Hp.new (cs : List ByteArray) (lim nur : Int) : Hp :=
  { cs := cs, A := List.replicate lim.toNat 0, y := ⟨0, nur, 0⟩, h0 := ⟨nur, nur + (lim - nur) / 2, nur⟩, h1 := ⟨nur + (lim - nur) / 2, nur + 2 * ((lim - nur) / 2), nur + (lim - nur) / 2⟩, now := 0,
    bg := List.replicate ((lim.toNat + 63) / 64) 0, mr := List.replicate ((lim.toNat + 63) / 64) 0 }

theorem Hp.new_ok (cs : List ByteArray) (lim nur : Int) (h0 : 0 ≤ nur) (h1 : nur ≤ lim) (h2 : lim ≤ 65536) (hc : cs.length ≤ 12) (hs : ∀ c ∈ cs, c.size ≤ 10) : (Hp.new cs lim nur).Ok := by
  have hz : ∀ a, bhas (Hp.new cs lim nur).bg a = true → False := by
    intro a ha
    have := bhas_zero ((lim.toNat + 63) / 64) a
    simp only [Hp.new] at ha
    rw [this] at ha
    cases ha
  refine ⟨by simp [Hp.new]; omega, hc, hs, .inl rfl, ?_, ?_, ?_, ?_, ?_, ?_, ?_, ?_, ?_, ?_, fun a ha => (hz a ha).elim, fun a ha => (hz a ha).elim, fun a b ha => (hz a ha).elim⟩
  all_goals simp only [Hp.new, List.length_replicate]
  all_goals omega

/-- The stores that fill a new heap's struct. -/
def fillH (w : World) (q : Nat) (cv : Value) (nur half : Int) : World :=
  ((((((((((w.setCell ⟨q, 0, none⟩ cv).setCell ⟨q, 3, none⟩ (.int .i64 0)).setCell ⟨q, 4, none⟩ (.int .i64 nur)).setCell ⟨q, 5, none⟩ (.int .i64 0)).setCell ⟨q, 6, none⟩ (.int .i64 nur)).setCell ⟨q, 7, none⟩ (.int .i64 (nur + half))).setCell ⟨q, 8, none⟩ (.int .i64 nur)).setCell
    ⟨q, 9, none⟩ (.int .i64 (nur + half))).setCell ⟨q, 10, none⟩ (.int .i64 (nur + 2 * half))).setCell ⟨q, 11, none⟩ (.int .i64 (nur + half)))

theorem fillH_heap {w : World} {q : Nat} {cv cv0 mv0 x2 x13 x14 : Value} {nur half : Int} {T : TypeId} (h : w.heap[q]? = some (.cells #[cv0, mv0, x2, .int .i64 0, .int .i64 0, .int .i64 0, .int .i64 0, .int .i64 0, .int .i64 0, .int .i64 0, .int .i64 0, .int .i64 0, .int .i64 0, x13, x14] T)) :
    (fillH w q cv nur half).heap[q]? = some (.cells #[cv, mv0, x2, .int .i64 0, .int .i64 nur, .int .i64 0, .int .i64 nur, .int .i64 (nur + half), .int .i64 nur, .int .i64 (nur + half), .int .i64 (nur + 2 * half), .int .i64 (nur + half), .int .i64 0, x13, x14] T) := by
  have k0 := heap_setCell h 0 cv
  simp only [List.setIfInBounds_toArray, List.set_cons_zero] at k0
  have k1 := heap_setCell k0 3 (.int .i64 0)
  simp only [List.setIfInBounds_toArray, List.set_cons_zero, List.set_cons_succ] at k1
  have k2 := heap_setCell k1 4 (.int .i64 nur)
  simp only [List.setIfInBounds_toArray, List.set_cons_zero, List.set_cons_succ] at k2
  have k3 := heap_setCell k2 5 (.int .i64 0)
  simp only [List.setIfInBounds_toArray, List.set_cons_zero, List.set_cons_succ] at k3
  have k4 := heap_setCell k3 6 (.int .i64 nur)
  simp only [List.setIfInBounds_toArray, List.set_cons_zero, List.set_cons_succ] at k4
  have k5 := heap_setCell k4 7 (.int .i64 (nur + half))
  simp only [List.setIfInBounds_toArray, List.set_cons_zero, List.set_cons_succ] at k5
  have k6 := heap_setCell k5 8 (.int .i64 nur)
  simp only [List.setIfInBounds_toArray, List.set_cons_zero, List.set_cons_succ] at k6
  have k7 := heap_setCell k6 9 (.int .i64 (nur + half))
  simp only [List.setIfInBounds_toArray, List.set_cons_zero, List.set_cons_succ] at k7
  have k8 := heap_setCell k7 10 (.int .i64 (nur + 2 * half))
  simp only [List.setIfInBounds_toArray, List.set_cons_zero, List.set_cons_succ] at k8
  have k9 := heap_setCell k8 11 (.int .i64 (nur + half))
  simp only [List.setIfInBounds_toArray, List.set_cons_zero, List.set_cons_succ] at k9
  exact k9

theorem fillH_upd {a w : World} {q : Nat} {cv : Value} {nur half : Int} (h : Upd [] a w) (hq : a.heap.size ≤ q) : Upd [] a (fillH w q cv nur half) := by
  exact ((((((((((h).setCell (Or.inr hq) _).setCell (Or.inr hq) _).setCell (Or.inr hq) _).setCell (Or.inr hq) _).setCell (Or.inr hq) _).setCell (Or.inr hq) _).setCell (Or.inr hq) _).setCell (Or.inr hq) _).setCell (Or.inr hq) _).setCell (Or.inr hq) _

theorem new_fin {cv0 mv0 : Value} {cs : List ByteArray} {nur : Int} {w w1 wA wB wC : World} {ln cb : Nat} {cv : Value} (h0 : 0 ≤ nur) (h1 : nur ≤ ln) (h2 : (ln : Int) ≤ 65536) (hc : cs.length ≤ 12) (hs : ∀ c ∈ cs, c.size ≤ 10) (hw : 0 < w.heap.size)
    (HA : ArAt w1 ((w.alloc (.cells #[cv0, mv0] 28)).heap.size + 1) (w.alloc (.cells #[cv0, mv0] 28)).heap.size (List.replicate (ln : Int).toNat 0)) (HU1 : Upd [] (w.alloc (.cells #[cv0, mv0] 28)) w1) (HZ1 : w1.heap.size = (w.alloc (.cells #[cv0, mv0] 28)).heap.size + 2)
    (HSA : SetAt wA (w1.drew.heap.size + 1) w1.drew.heap.size ln (List.replicate ((ln + 63) / 64) 0)) (HUA : Upd [] w1.drew wA) (HZA : wA.heap.size = w1.drew.heap.size + 2)
    (HSB : SetAt wB (wA.heap.size + 1) wA.heap.size ln (List.replicate ((ln + 63) / 64) 0)) (HUB : Upd [] wA wB) (HZB : wB.heap.size = wA.heap.size + 2)
    (hbk : wC.heap[wB.heap.size]? = some (.cells #[cv0, mv0, .pointer (some ⟨w.heap.size + 1 + 1, 0, none⟩), .int .i64 0, .int .i64 0, .int .i64 0, .int .i64 0, .int .i64 0, .int .i64 0, .int .i64 0, .int .i64 0, .int .i64 0, .int .i64 0, .pointer (some ⟨w1.heap.size + 1, 0, none⟩), .pointer (some ⟨wA.heap.size + 1, 0, none⟩)] 94))
    (hCC : ClsAt wC cv cb 0 cs) (huC : Upd [] wB wC) (hsz : wB.heap.size < wC.heap.size) (hcb : cb = 0 ∨ wB.heap.size + 1 ≤ cb ∧ cb < wC.heap.size) :
    ∃ (L : HL) (cv1 mv : Value), Ending.returned (.tuple #[.pointer (some ⟨wB.heap.size, 0, none⟩), .nilIface]) = .returned (.tuple #[.pointer (some ⟨L.hb, 0, none⟩), .nilIface]) ∧ HpAt (fillH wC wB.heap.size cv nur (((ln : Int) - nur) / 2)) L cv1 mv (Hp.new cs ln nur) ∧ Upd [] w (fillH wC wB.heap.size cv nur (((ln : Int) - nur) / 2)) ∧ ∀ i ∈ L.all, (i = 0 ∧ L.cb = 0 ∨ w.heap.size ≤ i) ∧ i < (fillH wC wB.heap.size cv nur (((ln : Int) - nur) / 2)).heap.size := by
  have hfs : (fillH wC wB.heap.size cv nur (((ln : Int) - nur) / 2)).heap.size = wC.heap.size := by simp [fillH, World.setCell]
  rw [hfs]
  simp only [World.size_alloc, World.size_drew, Int.toNat_natCast] at *
  have u3 : Upd [] wB (fillH wC wB.heap.size cv nur (((ln : Int) - nur) / 2)) := fillH_upd huC (Nat.le_refl _)
  have u2 : Upd [] wA (fillH wC wB.heap.size cv nur (((ln : Int) - nur) / 2)) := HUB.trans u3
  have u1 : Upd [] w1 (fillH wC wB.heap.size cv nur (((ln : Int) - nur) / 2)) := (((Upd.refl [] w1).drew).trans HUA).trans u2
  have uC : Upd [wB.heap.size] wC (fillH wC wB.heap.size cv nur (((ln : Int) - nur) / 2)) := by
    exact ((((((((((Upd.refl [wB.heap.size] wC).setCell (Or.inl (List.mem_singleton.2 rfl)) _).setCell (Or.inl (List.mem_singleton.2 rfl)) _).setCell (Or.inl (List.mem_singleton.2 rfl)) _).setCell (Or.inl (List.mem_singleton.2 rfl)) _).setCell (Or.inl (List.mem_singleton.2 rfl)) _).setCell (Or.inl (List.mem_singleton.2 rfl)) _).setCell (Or.inl (List.mem_singleton.2 rfl)) _).setCell (Or.inl (List.mem_singleton.2 rfl)) _).setCell (Or.inl (List.mem_singleton.2 rfl)) _).setCell (Or.inl (List.mem_singleton.2 rfl)) _
  refine ⟨⟨wB.heap.size, w.heap.size + 1 + 1, w.heap.size + 1, w1.heap.size + 1, w1.heap.size, wA.heap.size + 1, wA.heap.size, cb, 0⟩, cv, mv0, rfl, ⟨fillH_heap hbk, HA.upd u1 (by simp) (by simp), ?_, ?_, hCC.upd uC (by simp; omega), ?_, Hp.new_ok cs ln nur h0 h1 h2 hc hs⟩, (((Upd.refl [] w).alloc _).trans HU1).trans u1, ?_⟩
  · have : (Hp.new cs ln nur).A.length = ln := by simp [Hp.new]
    rw [this]
    have hb : (Hp.new cs ln nur).bg = List.replicate ((ln + 63) / 64) 0 := by simp [Hp.new]
    rw [hb]
    exact HSA.upd u2 (by simp) (by simp)
  · have : (Hp.new cs ln nur).A.length = ln := by simp [Hp.new]
    rw [this]
    have hb : (Hp.new cs ln nur).mr = List.replicate ((ln + 63) / 64) 0 := by simp [Hp.new]
    rw [hb]
    exact HSB.upd u3 (by simp) (by simp)
  · simp only [HL.all, List.nodup_cons, List.mem_cons, List.not_mem_nil, or_false, not_or, List.nodup_nil, not_false_eq_true, and_true]
    refine ⟨⟨?_, ?_, ?_, ?_, ?_, ?_, ?_⟩, ⟨?_, ?_, ?_, ?_, ?_, ?_⟩, ⟨?_, ?_, ?_, ?_, ?_⟩, ⟨?_, ?_, ?_, ?_⟩, ⟨?_, ?_, ?_⟩, ⟨?_, ?_⟩, ?_⟩ <;> omega
  · intro i hi
    simp only [HL.all, List.mem_cons, List.not_mem_nil, or_false] at hi
    rcases hi with rfl | rfl | rfl | rfl | rfl | rfl | rfl | rfl <;> dsimp only <;> omega

set_option maxRecDepth 100000 in
set_option maxHeartbeats 2000000 in
theorem hnew_ok (cv0 mv0 : Value) (b o : Nat) (cs : List ByteArray) (lim nur : Int) (w : World) (h : ClsAt w cv0 b o cs) (h0 : 0 ≤ nur) (h1 : nur ≤ lim) (h2 : lim ≤ 65536) (hc : cs.length ≤ 12) (hs : ∀ c ∈ cs, c.size ≤ 10) (hw : 0 < w.heap.size) :
    Calls Tryd.prog 19 #[.agg #[cv0, mv0], .int .i64 lim, .int .i64 nur] w fun e w' => ∃ L cv mv, e = .returned (.tuple #[.pointer (some ⟨L.hb, 0, none⟩), .nilIface]) ∧ HpAt w' L cv mv (Hp.new cs lim nur) ∧ Upd [] w w' ∧ ∀ i ∈ L.all, (i = 0 ∧ L.cb = 0 ∨ w.heap.size ≤ i) ∧ i < w'.heap.size := by
  have HS := Lib.hid hs
  clear hs
  go_enter Tryd.func19, Tryd.ntmps19
  go_wp2_with fail
  refine (new_ok _ _ (by omega) h2).mono ?_
  rintro e w1 ⟨rfl, hA, hu1, hz1⟩
  go_wp2_with fail
  have hp0 : w1.cell? ⟨w.heap.size, 0, none⟩ = some cv0 := by
    have h0 := heap_alloc_new w (.cells #[cv0, mv0] 28)
    exact hu1.cell (by rw [cell_of h0]; rfl) (by simp)
  have hp1 : w1.cell? ⟨w.heap.size, 1, none⟩ = some mv0 := by
    have h0 := heap_alloc_new w (.cells #[cv0, mv0] 28)
    exact hu1.cell (by rw [cell_of h0]; rfl) (by simp)
  have HA := Lib.hid hA
  have HU1 := Lib.hid hu1
  have HZ1 := Lib.hid hz1
  clear hA hu1 hz1
  obtain ⟨ln, rfl⟩ := Int.eq_ofNat_of_zero_le (show 0 ≤ lim by omega)
  have HB := Lib.hid (fun w => bnew ln w (by omega))
  have tokA : True := trivial
  go_region_with (go_at_call 46; (first | (clear tokA; refine (HB.out _).mono ?_; rintro e wA ⟨rfl, hSA, huA, hzA⟩; have hp0A := huA.cell hp0 (by simp); have hp1A := huA.cell hp1 (by simp); have HSA := Lib.hid hSA; have HUA := Lib.hid huA; have HZA := Lib.hid hzA; clear hSA huA hzA) | (refine (HB.out _).mono ?_; rintro e wB ⟨rfl, hSB, huB, hzB⟩; have hp0B := huB.cell hp0A (by simp); have hp1B := huB.cell hp1A (by simp); have HSB := Lib.hid hSB; have HUB := Lib.hid huB; have HZB := Lib.hid hzB; clear hSB huB hzB)))
  all_goals
    have HCB : Hid (ClsAt (wB.alloc (.cells (#[cv0, mv0, .pointer (some ⟨w.heap.size + 1 + 1, 0, none⟩), .int .i64 0, .int .i64 0, .int .i64 0, .int .i64 0, .int .i64 0, .int .i64 0, .int .i64 0, .int .i64 0, .int .i64 0, .int .i64 0, .pointer (some ⟨w1.heap.size + 1, 0, none⟩), .pointer (some ⟨wA.heap.size + 1, 0, none⟩)]) 94)) cv0 b o cs) :=
      h.upd (((((((Upd.refl [] w).alloc _).trans HU1.out).trans ((Upd.refl [] w1).drew)).trans HUA.out).trans HUB.out).alloc _) (by simp)
    have hp0C := ((Upd.refl [] wB).alloc (.cells (#[cv0, mv0, .pointer (some ⟨w.heap.size + 1 + 1, 0, none⟩), .int .i64 0, .int .i64 0, .int .i64 0, .int .i64 0, .int .i64 0, .int .i64 0, .int .i64 0, .int .i64 0, .int .i64 0, .int .i64 0, .pointer (some ⟨w1.heap.size + 1, 0, none⟩), .pointer (some ⟨wA.heap.size + 1, 0, none⟩)]) 94)).cell hp0B (by simp)
    clear hp0 hp1 hp0A hp1A hp0B hp1B
    go_wp2_with fail
    refine (clone_any _ _ _ _ _ HCB.out (by omega)).mono ?_
    rintro e wC ⟨cv, cb, rfl, hCC, huC, hcb⟩
    obtain ⟨xa, xc, rfl⟩ := hCC.shape
    have HCC := Lib.hid hCC
    have HUC := Lib.hid huC
    have HCBB := Lib.hid hcb
    have hbk := huC.heap (heap_alloc_new wB (.cells (#[cv0, mv0, .pointer (some ⟨w.heap.size + 1 + 1, 0, none⟩), .int .i64 0, .int .i64 0, .int .i64 0, .int .i64 0, .int .i64 0, .int .i64 0, .int .i64 0, .int .i64 0, .int .i64 0, .int .i64 0, .pointer (some ⟨w1.heap.size + 1, 0, none⟩), .pointer (some ⟨wA.heap.size + 1, 0, none⟩)]) 94)) (by simp)
    have HBK := Lib.hid hbk
    have e0 : wC.cell? ⟨wB.heap.size, 0, none⟩ = some cv0 := by rw [cell_of hbk]; rfl
    have e3 : wC.cell? ⟨wB.heap.size, 3, none⟩ = some (.int .i64 0) := by rw [cell_of hbk]; rfl
    have e4 : wC.cell? ⟨wB.heap.size, 4, none⟩ = some (.int .i64 0) := by rw [cell_of hbk]; rfl
    have e5 : wC.cell? ⟨wB.heap.size, 5, none⟩ = some (.int .i64 0) := by rw [cell_of hbk]; rfl
    have e6 : wC.cell? ⟨wB.heap.size, 6, none⟩ = some (.int .i64 0) := by rw [cell_of hbk]; rfl
    have e7 : wC.cell? ⟨wB.heap.size, 7, none⟩ = some (.int .i64 0) := by rw [cell_of hbk]; rfl
    have e8 : wC.cell? ⟨wB.heap.size, 8, none⟩ = some (.int .i64 0) := by rw [cell_of hbk]; rfl
    have e9 : wC.cell? ⟨wB.heap.size, 9, none⟩ = some (.int .i64 0) := by rw [cell_of hbk]; rfl
    have e10 : wC.cell? ⟨wB.heap.size, 10, none⟩ = some (.int .i64 0) := by rw [cell_of hbk]; rfl
    have e11 : wC.cell? ⟨wB.heap.size, 11, none⟩ = some (.int .i64 0) := by rw [cell_of hbk]; rfl
    have f0 := froz_of hbk 0
    have f3 := froz_of hbk 3
    have f4 := froz_of hbk 4
    have f5 := froz_of hbk 5
    have f6 := froz_of hbk 6
    have f7 := froz_of hbk 7
    have f8 := froz_of hbk 8
    have f9 := froz_of hbk 9
    have f10 := froz_of hbk 10
    have f11 := froz_of hbk 11
    clear hCC huC hcb hbk hp0C
    go_wp2_with fail
    refine bodyPost_ret (v := .tuple #[.pointer (some ⟨wB.heap.size, 0, none⟩), .nilIface]) (by simp [results, Tryd.results19, go_sem]) rfl ?_
    have hfin := new_fin (cv := .slice xa cs.length xc) h0 h1 h2 hc HS.out hw HA.out HU1.out HZ1.out HSA.out HUA.out HZA.out HSB.out HUB.out HZB.out HBK.out HCC.out (((Upd.refl [] wB).alloc _).trans HUC.out) (lt_of_heap HBK.out) (by have := HCBB.out; simpa using this)
    exact hfin

/-- Where its parts lie, but for the classes' block. -/
theorem HL.above {L : HL} {W : Nat} (hnd : L.all.Nodup) (hlo : ∀ i ∈ L.all, i = 0 ∧ L.cb = 0 ∨ W ≤ i) : ∀ i ∈ [L.hb, L.ab, L.wb, L.bb, L.bw, L.mb, L.mw], W ≤ i := by
  intro i hi
  have hne : i ≠ L.cb := by
    intro e
    simp only [HL.all, List.nodup_cons, List.mem_cons, List.not_mem_nil, or_false, not_or] at hnd hi
    obtain ⟨h1, h2, h3, h4, h5, h6, h7, _⟩ := hnd
    rcases hi with h | h | h | h | h | h | h
    · exact h1.2.2.2.2.2.2 (h ▸ e)
    · exact h2.2.2.2.2.2 (h ▸ e)
    · exact h3.2.2.2.2 (h ▸ e)
    · exact h4.2.2.2 (h ▸ e)
    · exact h5.2.2 (h ▸ e)
    · exact h6.2 (h ▸ e)
    · exact h7 (h ▸ e)
  rcases hlo i (by simp only [HL.all, List.mem_cons, List.not_mem_nil, or_false] at hi ⊢; rcases hi with h | h | h | h | h | h | h <;> simp [h]) with ⟨h1, h2⟩ | h
  · exact absurd (h1.trans h2.symm) hne
  · exact h

end Go.Proofs.YtneeljhjfmcdoaaDoor
