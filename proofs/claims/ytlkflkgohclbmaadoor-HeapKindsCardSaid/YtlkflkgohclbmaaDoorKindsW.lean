/- HeapKinds: the walk. -/
import Derived.Test.YtlkflkgohclbmaaDoorAny
import Derived.Test.YtlkflkgohclbmaaDoorMay3
import Derived.Test.YtlkflkgohclbmaaDoorStep
namespace Go.Proofs.YtlkflkgohclbmaaDoor
open Go.RowKit

theorem fault_code (w : World) (c : Int) (p : Option Addr) (n k : Nat) : (Instr.field 37 (.agg #[.int .i64 c, .slice p n k]) 0).run Tryd.prog w = .ok (.int .i64 c) w := by kernel_rfl

/-- Classes that lie in a row of one's own. -/
theorem ClassAt.of_row {w : World} {base : Nat} {v : Value} {cs : List ByteArray} (h : w.ownsRow base 34 1 v cs.length (cs.map Value.string)) (hs : ∀ c ∈ cs, c.size ≤ maxLen) : ClassAt w v cs := by
  rcases h.2 with ⟨hv, hn⟩ | ⟨g, cap, cur, hv, hb, hg, hc1, hc2, rest⟩
  · have : cs = [] := List.eq_nil_of_length_eq_zero hn
    subst this
    exact ⟨none, 0, hv, fun _ => rfl, by simp, by simp [maxLen], by simp⟩
  · refine ⟨some ⟨g, 0, none⟩, cap, hv, by simp, hc1, hc2, fun i hi => ⟨g, 0, rfl, ?_, ?_⟩⟩
    · rw [List.getD_eq_getElem?_getD, List.getElem?_eq_getElem hi]; exact hs _ (List.getElem_mem hi)
    · have h1 := h.cells (g := g) (by rw [hv]; rfl) i (.string (cs.getD i ByteArray.empty)) (by
        rw [List.getElem?_map, List.getElem?_eq_getElem hi, List.getD_eq_getElem?_getD, List.getElem?_eq_getElem hi]; rfl)
      rwa [Addr.add_lit] at h1

/-- The law's one method. -/
def retMeth : Meth := ⟨⟨#[]⟩, ⟨#[]⟩, ⟨#[]⟩, [⟨33, 0, 0, 0⟩]⟩

theorem meths_one {w : World} {a b : Nat} (h1 : w.heap[a]? = some (.cells #[.int .i64 33, .int .i64 0, .int .i64 0, .int .i64 0] 25)) (h2 : w.heap[b]? = some (.cells #[.string ⟨#[]⟩, .string ⟨#[]⟩, .string ⟨#[]⟩, .slice (some ⟨a, 0, none⟩) 1 1] 28)) :
    MethsAt w (.slice (some ⟨b, 0, none⟩) 1 1) [retMeth] := by
  refine ⟨_, 1, rfl, by simp, by simp [maxLen], fun i hi => ⟨b, 0, rfl, ?_, ?_⟩⟩
  · obtain rfl : i = 0 := by simpa using hi
    exact ⟨Nat.zero_le _, Nat.zero_le _, Nat.zero_le _⟩
  · obtain rfl : i = 0 := by simpa using hi
    refine ⟨by rw [cell_of h2]; rfl, by rw [cell_of h2]; rfl, by rw [cell_of h2]; rfl, _, by rw [cell_of h2]; rfl, ?_⟩
    refine ⟨_, 1, rfl, by simp [retMeth], by simp [maxLen], fun q hq => ⟨a, 0, rfl, ?_, ?_⟩⟩
    · obtain rfl : q = 0 := by simp [retMeth] at hq; exact hq
      simp [retMeth, Ins.bd]
    · obtain rfl : q = 0 := by simp [retMeth] at hq; exact hq
      exact ⟨by rw [cell_of h1]; rfl, by rw [cell_of h1]; rfl, by rw [cell_of h1]; rfl, by rw [cell_of h1]; rfl⟩

/-- The law's program in memory: an instruction, a method, the program, the row of its classes. -/
structure KPrg (w w1 wr : World) (cv : Value) (k : Nat) (cs : List ByteArray) : Prop where
  u : Upd [] w wr
  i : wr.heap[w1.heap.size]? = some (.cells #[.int .i64 33, .int .i64 0, .int .i64 0, .int .i64 0] 25)
  m : wr.heap[w1.heap.size + 1]? = some (.cells #[.string ⟨#[]⟩, .string ⟨#[]⟩, .string ⟨#[]⟩, .slice (some ⟨w1.heap.size, 0, none⟩) 1 1] 28)
  p : wr.heap[w1.heap.size + 1 + 1]? = some (.cells #[cv, .slice (some ⟨w1.heap.size + 1, 0, none⟩) 1 1] 32)
  row : wr.ownsRow (w1.heap.size + 1 + 1 + 1) 34 1 cv k (cs.map Value.string)

theorem KPrg.start {w w1 : World} (hu1 : Upd [] w w1) :
    KPrg w w1 (((w1.alloc (.cells #[.int .i64 33, .int .i64 0, .int .i64 0, .int .i64 0] 25)).alloc (.cells #[.string ⟨#[]⟩, .string ⟨#[]⟩, .string ⟨#[]⟩, .slice (some ⟨w1.heap.size, 0, none⟩) 1 1] 28)).alloc (.cells #[.slice none 0 0, .slice (some ⟨w1.heap.size + 1, 0, none⟩) 1 1] 32)) (.slice none 0 0) 0 [] := by
  refine ⟨((hu1.alloc _).alloc _).alloc _, ?_, ?_, ?_, World.ownsRow_nil _ _ _ _⟩
  · exact (((Upd.refl [] _).alloc _).alloc _).heap (heap_alloc_new w1 _) (by simp)
  · have := ((Upd.refl [] _).alloc (.cells #[.slice none 0 0, .slice (some ⟨w1.heap.size + 1, 0, none⟩) 1 1] 32)).heap (heap_alloc_new (w1.alloc (.cells #[.int .i64 33, .int .i64 0, .int .i64 0, .int .i64 0] 25)) (.cells #[.string ⟨#[]⟩, .string ⟨#[]⟩, .string ⟨#[]⟩, .slice (some ⟨w1.heap.size, 0, none⟩) 1 1] 28)) (by simp)
    simpa using this
  · have := heap_alloc_new ((w1.alloc (.cells #[.int .i64 33, .int .i64 0, .int .i64 0, .int .i64 0] 25)).alloc (.cells #[.string ⟨#[]⟩, .string ⟨#[]⟩, .string ⟨#[]⟩, .slice (some ⟨w1.heap.size, 0, none⟩) 1 1] 28)) (.cells #[.slice none 0 0, .slice (some ⟨w1.heap.size + 1, 0, none⟩) 1 1] 32)
    simpa using this

theorem KPrg.upd {w w1 wr w2 : World} {cv : Value} {k : Nat} {cs : List ByteArray} (h : KPrg w w1 wr cv k cs) (hu : Upd [] wr w2) : KPrg w w1 w2 cv k cs :=
  ⟨h.u.trans hu, hu.heap h.i (by simp), hu.heap h.m (by simp), hu.heap h.p (by simp), row_upd h.row hu (by simp)⟩

/-- The row has grown, the program's cell not yet. -/
theorem KPrg.push {w w1 wr w6 : World} {cv v' : Value} {k : Nat} {cs cs' : List ByteArray} (h : KPrg w w1 wr cv k cs) (hg : wr.grownBy w6 cv.ownBlock) (hown : w6.ownsRow (w1.heap.size + 1 + 1 + 1) 34 1 v' (k + 1) (cs'.map Value.string)) (hw : w.heap.size ≤ w1.heap.size) :
    (∃ g c', v' = .slice (some ⟨g, 0, none⟩) (k + 1) c') ∧ w6.cell? ⟨w1.heap.size + 1 + 1, 0, none⟩ = some cv ∧ w6.frozen? ⟨w1.heap.size + 1 + 1, 0, none⟩ = false ∧ KPrg w w1 (w6.setCell ⟨w1.heap.size + 1 + 1, 0, none⟩ v') v' (k + 1) cs' := by
  have hu : Upd cv.ownBlock.toList wr w6 := (Upd.refl _ wr).grown hg (fun q hq => Or.inl (Option.mem_toList.2 hq))
  have hlo : ∀ q, cv.ownBlock = some q → w1.heap.size + 1 + 1 + 1 ≤ q := fun q hq => (h.row.lt q hq).1
  have hno : ∀ q, q < w1.heap.size + 1 + 1 + 1 → q ∉ cv.ownBlock.toList := fun q hq hm => by have := hlo q (Option.mem_toList.1 hm); omega
  have hp6 := hu.heap h.p (hno _ (by omega))
  have hs := lt_of_heap h.p
  refine ⟨?_, by rw [cell_of hp6]; rfl, froz_of hp6 0, ?_, ?_, ?_, ?_, ?_⟩
  · rcases hown.2 with ⟨_, hz⟩ | ⟨g, c', _, hv, _⟩
    · omega
    · exact ⟨g, c', hv⟩
  · exact (h.u.trans' hu (fun i hi hlt => by have := hlo i (Option.mem_toList.1 hi); omega)).setCell (Or.inr (by show w.heap.size ≤ w1.heap.size + 1 + 1; omega)) _
  · rw [Below.heap_setCell _ _ _ _ (by show w1.heap.size ≠ w1.heap.size + 1 + 1; omega)]; exact hu.heap h.i (hno _ (by omega))
  · rw [Below.heap_setCell _ _ _ _ (by show w1.heap.size + 1 ≠ w1.heap.size + 1 + 1; omega)]; exact hu.heap h.m (hno _ (by omega))
  · have := heap_setCell hp6 0 v'
    simpa using this
  · refine row_upd hown ((Upd.refl [w1.heap.size + 1 + 1] w6).setCell (Or.inl (by simp)) _) (fun q hq hm => ?_)
    simp only [List.mem_singleton] at hm
    have := (hown.lt q hq).1
    omega

/-- How many values an object of class c has. -/
def wantN (cs : List ByteArray) (c n : Int) : Int := if 0 ≤ c then ((cs.getD c.toNat ByteArray.empty).size : Int) else n
/-- Is its i-th value a reference? -/
def letR (cs : List ByteArray) (c i : Int) : Bool := decide (c = -2) || decide (0 ≤ c) && decide ((cs.getD c.toNat ByteArray.empty).get! i.toNat = 82)

theorem words_want {S : Hp} {c n : Int} (h1 : -2 ≤ c) (h2 : c < S.cs.length) (h3 : 0 ≤ n) (h4 : n ≤ 50) : S.words c n = 2 + wantN S.cs c n := by
  unfold Hp.words wantN
  rw [if_neg (by omega)]
  split <;> rfl

theorem want_bd {S : Hp} (hS : S.Ok) {c n : Int} (h2 : c < S.cs.length) (h3 : 0 ≤ n) : 0 ≤ wantN S.cs c n ∧ (wantN S.cs c n ≤ n ∨ wantN S.cs c n ≤ 10) := by
  unfold wantN
  split
  · rename_i h0
    have hl : c.toNat < S.cs.length := by omega
    have : (S.cs.getD c.toNat ByteArray.empty).size ≤ 10 := by
      rw [List.getD_eq_getElem?_getD, List.getElem?_eq_getElem hl]
      exact hS.small _ (List.getElem_mem hl)
    omega
  · omega

/-- A new object, whole. -/
theorem new_facts {S : Hp} (hS : S.Ok) (hb : S.bg.length = (S.A.length + 63) / 64) {k : Nat} (hk : k < 3) {c n : Int} (h1 : -2 ≤ c) (h2 : c < S.cs.length) (h3 : 0 ≤ n) (h4 : n ≤ 50) (hr : 2 + wantN S.cs c n ≤ (S.sp k).to - (S.sp k).top) :
    S.room k c n = true ∧ S.layR k c n = (S.sp k).top + 1 ∧ S.layK k c n = S.laid k c (2 + wantN S.cs c n) ∧ Fits S k c (2 + wantN S.cs c n) ∧
      (S.layK k c n).is (S.layR k c n) = true ∧ (S.layK k c n).cls (S.layR k c n) = c ∧ (S.layK k c n).num (S.layR k c n) = wantN S.cs c n ∧ (∀ i, (S.layK k c n).hasV (S.layR k c n) i = decide (0 ≤ i ∧ i < wantN S.cs c n)) ∧
      (∀ i, (S.layK k c n).getV (S.layR k c n) i = 0) ∧ (∀ i, (S.layK k c n).refB (S.layR k c n) i = (decide (0 ≤ i ∧ i < wantN S.cs c n) && letR S.cs c i)) := by
  have hw := words_want h1 h2 h3 h4
  have hbd := want_bd hS h2 h3
  have hroom : S.room k c n = true := by
    unfold Hp.room
    rw [hw, decide_eq_true_eq]
    omega
  have hR : S.layR k c n = (S.sp k).top + 1 := by unfold Hp.layR; rw [if_pos hroom]
  have hK : S.layK k c n = S.laid k c (2 + wantN S.cs c n) := by unfold Hp.layK; rw [if_pos hroom, hw]
  have f : Fits S k c (2 + wantN S.cs c n) := by
    have := words_fits hS hk (c := c) (n := n) (by omega) (by omega)
    rwa [hw] at this
  obtain ⟨e1, e2⟩ := laid_cls_new hS f
  have e2' : 2 + wantN S.cs c n - 2 = wantN S.cs c n := by omega
  have hhas : ∀ i, (S.laid k c (2 + wantN S.cs c n)).hasV ((S.sp k).top + 1) i = decide (0 ≤ i ∧ i < wantN S.cs c n) := fun i => by
    unfold Hp.hasV
    rw [laid_is_new hS f hb, e2, e2', Bool.true_and]
  rw [hR, hK]
  refine ⟨hroom, rfl, rfl, f, laid_is_new hS f hb, e1, by rw [e2, e2'], hhas, fun i => ?_, fun i => ?_⟩
  · unfold Hp.getV
    rw [hhas]
    split
    · rename_i h
      rw [decide_eq_true_eq] at h
      exact laid_get_new hS f h.1 (by omega)
    · rfl
  · rw [laid_refB_new hS f hb, e2']; rfl

set_option maxRecDepth 100000 in
set_option maxHeartbeats 2000000 in
theorem kinds_any (v : Value) (cs : List ByteArray) (n i : Int) (w : World) (hv : ClassAt w v cs) :
    Calls Tryd.prog 3 #[v, .int .i64 n, .int .i64 i] w fun e w' => e = .returned (.bool true) ∧ Upd [] w w' := by
  obtain ⟨ca, cc, rfl, hca, hcl, hcm, hcx⟩ := hv
  unfold maxLen at hcm
  have HCX := Lib.hid hcx
  clear hcx hca
  obtain ⟨i0, hi, hz0, hz1, hz2⟩ := info_parts Tryd.infoClass
  have HI := Lib.hid hi
  have HZ0 := Lib.hid hz0
  have HZ1 := Lib.hid hz1
  have HZ2 := Lib.hid hz2
  clear hi hz0 hz1 hz2
  have hfc := fault_code
  by_cases h10 : 10 < cs.length
  · have d1 : decide ((10 : Int) < (cs.length : Int)) = true := by simp; omega
    go_enter Tryd.func3, Tryd.ntmps3
    go_wp2_with fail
    refine (first_any _).mono ?_
    rintro e w1 ⟨rfl, hu⟩
    go_wp2_with fail
    go_ret
    exact ⟨rfl, hu⟩
  · have d1 : decide ((10 : Int) < (cs.length : Int)) = false := by simp; omega
    go_enter Tryd.func3, Tryd.ntmps3
    go_wp2_with fail
    refine (first_any _).mono ?_
    rintro e w1 ⟨rfl, hu1⟩
    go_wp2_with fail
    have hwz1 := hu1.size
    go_loopw [9] (fun iv wr => ∃ (k : Nat) (cv : Value), k ≤ cs.length ∧ iv = .int .i64 k ∧ KPrg w w1 wr cv k (cs.take k)) (fun iv _ => cs.length - (intOf iv).toNat)
    case atStart => exact ⟨0, .slice none 0 0, by omega, rfl, KPrg.start hu1⟩
    case round =>
      obtain ⟨k, cv, hk, rfl, hK⟩ := hrel
      by_cases hlt : k < cs.length
      · obtain ⟨b, o, rfl, hsz, hcell⟩ := HCX.out k hlt
        have hx := hK.u.cell hcell (by simp)
        have HT : Hid (cs.take (k + 1) = cs.take k ++ [cs.getD k ByteArray.empty]) := by
          show _ = _
          rw [List.take_add_one, List.getElem?_eq_getElem hlt, List.getD_eq_getElem?_getD, List.getElem?_eq_getElem hlt]; rfl
        generalize cs.getD k ByteArray.empty = s at hx HT hsz
        obtain ⟨wo, rfl⟩ : ∃ wo : World, wo = wr := ⟨_, rfl⟩
        have hc0 := cell_of hK.p 0
        have hwz := lt_of_heap hK.p
        have HK := Lib.hid hK
        clear hK hcell hsz
        go_wp2_with fail
        go_region_law (refine step_append_own_at rfl (.tmp 44) (.tmp 50) 30 rfl (w1.heap.size + 1 + 1 + 1) 34 i0 (.agg #[.string ByteArray.empty]) 1 16 Tryd.underlying30 HI.out HZ0.out HZ1.out HZ2.out rfl (by decide) cv k ((cs.take k).map Value.string) rfl (HK.out.row.drew.alloc _) ⟨wo.heap.size, 0, none⟩ 1 1 [.string s] rfl rfl (cell_one_new _ _ _) (by simp [Value.oneCell']) (by unfold maxLen; omega) (by omega) (by simp; omega) ?_; intro v' w6 hown' hgrow hat; obtain ⟨⟨g, c', rfl⟩, hc6, hf6, hK6⟩ := (HK.out.upd (((Upd.refl [] wo).alloc (.cells #[.string s] 34)).drew)).push (cs' := cs.take (k + 1)) hgrow (by rw [HT.out]; simpa using hown') hwz1; clear hown' hgrow hat)
        all_goals
          have HK6 := Lib.hid hK6
          clear hK6 hc6 hf6
          go_wp2_with fail
          go_roundw
          case rel => exact ⟨k + 1, _, by omega, by go_num, HK6.out⟩
          case measure => simp [intOf]; omega
      · obtain rfl : k = cs.length := by omega
        rw [List.take_length] at hK
        have hc0 := cell_of hK.p 0
        have hc1 := cell_of hK.p 1
        have hcls := ClassAt.of_row hK.row (fun c hc => by
          obtain ⟨j, hj, rfl⟩ := List.getElem_of_mem hc
          obtain ⟨b, o, _, hsz, _⟩ := HCX.out j hj
          rw [List.getD_eq_getElem?_getD, List.getElem?_eq_getElem hj] at hsz
          exact hsz)
        have hms := meths_one hK.i hK.m
        have hU := hK.u
        obtain ⟨wo, rfl⟩ : ∃ wo : World, wo = wr := ⟨_, rfl⟩
        obtain ⟨cp, cpc, rfl⟩ := (show ∃ a c, cv = .slice a cs.length c by obtain ⟨a, c, h, _⟩ := hcls; exact ⟨a, c, h⟩)
        go_wp2_with fail
        refine (may_any ⟨cs, [retMeth]⟩ _ _ _ hcls hms).mono ?_
        rintro e w2 ⟨c, s, b, at_, rfl, hia, hmay, hu2⟩
        obtain ⟨sp, sc, rfl⟩ := hia.form
        clear hia
        have hK2 := hK.upd hu2
        clear hc0 hc1 hcls hms hK hU
        have hc0 := cell_of hK2.p 0
        have hc1 := cell_of hK2.p 1
        by_cases hz : c = 0
        · subst hz
          have hok := hmay.ok
          have hcls := ClassAt.of_row hK2.row (fun c hc => by
            have := hok.small c hc
            unfold maxLen; omega)
          obtain ⟨cb, co, hcl2⟩ := hcls.cls
          go_wp2_with fail
          refine (hnew_ok _ _ _ _ cs 2000 1000 _ hcl2 (by omega) (by omega) (by omega) hok.few hok.small (by have := lt_of_heap hK2.p; omega)).mono ?_
          rintro e w3 ⟨L, hv, mv, rfl, hH, hu3, hlo⟩
          have hU3 := hK2.u.trans hu3
          have e32 := and_31 n
          clear hc0 hc1 hcls hcl2 hu2
          have hLab : ∀ i ∈ [L.hb, L.ab, L.wb, L.bb, L.bw, L.mb, L.mw], w.heap.size ≤ i := HL.above hH.nd (fun i hi => by
            rcases (hlo i hi).1 with h | h
            · exact .inl h
            · right; have := hK2.u.size; omega)
          have hLB : Hid (∀ i ∈ [L.hb, L.wb, L.bw], w.heap.size ≤ i) := fun i hi => hLab i (by simp only [List.mem_cons, List.not_mem_nil, or_false] at hi ⊢; rcases hi with h | h | h <;> simp [h])
          clear hlo hLab hK2 hu3
          go_wp2_with fail
          have hn0 := Int.emod_nonneg n (show (32 : Int) ≠ 0 by omega)
          have hn1 := Int.emod_lt_of_pos n (show (0 : Int) < 32 by omega)
          generalize n % 32 = nn at hn0 hn1
          go_loopw [12] (fun cv wr => ∃ (j : Nat) (S : Hp), j ≤ cs.length + 2 ∧ cv = .int .i64 ((j : Int) - 2) ∧ HpAt wr L hv mv S ∧ Hid (S.cs = cs ∧ S.y.to = 1000 ∧ S.y.top ≤ 33 * (j : Int)) ∧ Upd [] w wr) (fun cv _ => cs.length + 2 - (intOf cv + 2).toNat)
          case atStart => exact ⟨0, _, by omega, rfl, hH, ⟨rfl, by simp [Hp.new], by simp [Hp.new]⟩, hU3⟩
          case round =>
            obtain ⟨j, S, hj, rfl, hH, HS, hU⟩ := hrel
            by_cases hlt : j < cs.length + 2
            · have hok := hH.ok
              obtain ⟨s1, s2, s3⟩ := HS.out
              have e0 : S.sp 0 = S.y := rfl
              have hwb := want_bd hok (c := (j : Int) - 2) (n := nn) (by rw [s1]; omega) hn0
              have F := new_facts hok hH.bg.2.2.2.1 (k := 0) (by omega) (c := (j : Int) - 2) (n := nn) (by omega) (by rw [s1]; omega) hn0 (by omega) (by rw [e0, s2]; omega)
              obtain ⟨f1, f2, f3, f4, f5, f6, f7, f8, f9, f10⟩ := F
              have hsp := laid_sp S 0 0 ((j : Int) - 2) (2 + wantN S.cs ((j : Int) - 2) nn) (by omega) (by omega)
              rw [if_pos rfl, e0] at hsp
              have HS' : Hid ((S.layK 0 ((j : Int) - 2) nn).cs = cs ∧ (S.layK 0 ((j : Int) - 2) nn).y.to = 1000 ∧ (S.layK 0 ((j : Int) - 2) nn).y.top ≤ 33 * ((j + 1 : Nat) : Int)) := by
                rw [f3]
                have e1 : (S.laid 0 ((j : Int) - 2) (2 + wantN S.cs ((j : Int) - 2) nn)).sp 0 = (S.laid 0 ((j : Int) - 2) (2 + wantN S.cs ((j : Int) - 2) nn)).y := rfl
                rw [e1] at hsp
                refine ⟨by rw [laid_cs]; exact s1, by rw [hsp]; exact s2, ?_⟩
                rw [hsp]
                show S.y.top + (2 + wantN S.cs ((j : Int) - 2) nn) ≤ _
                omega
              have HY := Lib.hid (young_any L hv mv S ((j : Int) - 2) nn wr hH)
              rw [f1] at HY
              have hr0 : 1 ≤ S.layR 0 ((j : Int) - 2) nn ∧ S.layR 0 ((j : Int) - 2) nn ≤ 1001 := by
                rw [f2, e0]
                have := hok.y0; have := hok.y1
                omega
              clear f1 f2 f3 f4 hsp e0 s2 s3 hwb
              rw [s1] at f7 f8 f10
              clear s1
              generalize S.layK 0 ((j : Int) - 2) nn = S' at *
              generalize S.layR 0 ((j : Int) - 2) nn = r at *
              have HC := Lib.hid (rfl : (j : Int) - 2 = (j : Int) - 2)
              have hcb : -2 ≤ (j : Int) - 2 ∧ (j : Int) - 2 < cs.length := by omega
              have HI : Hid (∀ w, HpAt w L hv mv S' → Calls Tryd.prog 19 #[.pointer (some ⟨L.hb, 0, none⟩), .int .i64 r] w fun e w' => e = .returned (.tuple #[.int .i64 ((j : Int) - 2), .int .i64 (wantN cs ((j : Int) - 2) nn), .bool true]) ∧ w = w') := fun w h => by
                have := is_yes L hv mv S' r w h f5
                rwa [f6, f7] at this
              have HG : Hid (∀ w, HpAt w L hv mv S' → Calls Tryd.prog 20 #[.pointer (some ⟨L.hb, 0, none⟩), .int .i64 r, .int .i64 i] w fun e w' => e = .returned (.tuple #[.int .i64 0, .bool (decide (0 ≤ i ∧ i < wantN cs ((j : Int) - 2) nn))]) ∧ w = w') := fun w h => by
                have := get_any L hv mv S' r i w h (by omega)
                rwa [f8, f9] at this
              have HRF : Hid (∀ w, HpAt w L hv mv S' → Calls Tryd.prog 21 #[.pointer (some ⟨L.hb, 0, none⟩), .int .i64 r, .int .i64 i] w fun e w' => e = .returned (.bool (decide (0 ≤ i ∧ i < wantN cs ((j : Int) - 2) nn) && letR cs ((j : Int) - 2) i)) ∧ w = w') := fun w h => by
                have := ref_any L hv mv S' r i w h (by omega)
                rwa [f10] at this
              clear f5 f6 f7 f8 f9 f10 hok
              obtain ⟨wo4, rfl⟩ : ∃ wo : World, wo = wr := ⟨_, rfl⟩
              by_cases g2 : j = 0
              · subst g2
                have hw : wantN cs (((0 : Nat) : Int) - 2) nn = nn := rfl
                have hl : letR cs (((0 : Nat) : Int) - 2) i = true := rfl
                rw [hw] at HI HG HRF
                rw [hl] at HRF
                clear hw hl
                obtain ⟨want, rfl⟩ : ∃ want : Int, want = nn := ⟨_, rfl⟩
                by_cases q0 : i < 0
                · have r0 : decide (0 ≤ i) = false := by simp; omega
                  rw [decide_eq_false (by omega : ¬ (0 ≤ i ∧ i < want))] at HG HRF
                  rw [Bool.false_and] at HRF
                  go_wp2_with fail
                  refine HY.out.mono ?_
                  rintro e w5 ⟨rfl, hH5, hu5⟩
                  have hU5 := hU.trans' hu5 (fun q hq hlt2 => by have := hLB.out q hq; omega)
                  go_wp2_with fail
                  refine (HI.out _ hH5).mono ?_
                  rintro e w' ⟨rfl, rfl⟩
                  go_wp2_with fail
                  refine (HG.out _ hH5).mono ?_
                  rintro e w' ⟨rfl, rfl⟩
                  go_wp2_with fail
                  refine (HRF.out _ hH5).mono ?_
                  rintro e w' ⟨rfl, rfl⟩
                  go_wp2_with fail
                  go_roundw
                  case rel => exact ⟨0 + 1, S', by omega, by go_num, hH5, HS'.out, hU5⟩
                  case measure => first | (simp [intOf]; done) | (simp [intOf]; omega)
                · have r0 : decide (0 ≤ i) = true := by simp; omega
                  by_cases q1 : i < want
                  · have r1 : decide (i < want) = true := by simp; omega
                    rw [decide_eq_true (by omega : 0 ≤ i ∧ i < want)] at HG HRF
                    rw [Bool.true_and] at HRF
                    go_wp2_with fail
                    refine HY.out.mono ?_
                    rintro e w5 ⟨rfl, hH5, hu5⟩
                    have hU5 := hU.trans' hu5 (fun q hq hlt2 => by have := hLB.out q hq; omega)
                    go_wp2_with fail
                    refine (HI.out _ hH5).mono ?_
                    rintro e w' ⟨rfl, rfl⟩
                    go_wp2_with fail
                    refine (HG.out _ hH5).mono ?_
                    rintro e w' ⟨rfl, rfl⟩
                    go_wp2_with fail
                    refine (HRF.out _ hH5).mono ?_
                    rintro e w' ⟨rfl, rfl⟩
                    go_wp2_with fail
                    go_roundw
                    case rel => exact ⟨0 + 1, S', by omega, by go_num, hH5, HS'.out, hU5⟩
                    case measure => first | (simp [intOf]; done) | (simp [intOf]; omega)
                  · have r1 : decide (i < want) = false := by simp; omega
                    rw [decide_eq_false (by omega : ¬ (0 ≤ i ∧ i < want))] at HG HRF
                    rw [Bool.false_and] at HRF
                    go_wp2_with fail
                    refine HY.out.mono ?_
                    rintro e w5 ⟨rfl, hH5, hu5⟩
                    have hU5 := hU.trans' hu5 (fun q hq hlt2 => by have := hLB.out q hq; omega)
                    go_wp2_with fail
                    refine (HI.out _ hH5).mono ?_
                    rintro e w' ⟨rfl, rfl⟩
                    go_wp2_with fail
                    refine (HG.out _ hH5).mono ?_
                    rintro e w' ⟨rfl, rfl⟩
                    go_wp2_with fail
                    refine (HRF.out _ hH5).mono ?_
                    rintro e w' ⟨rfl, rfl⟩
                    go_wp2_with fail
                    go_roundw
                    case rel => exact ⟨0 + 1, S', by omega, by go_num, hH5, HS'.out, hU5⟩
                    case measure => first | (simp [intOf]; done) | (simp [intOf]; omega)
              · by_cases g1 : j = 1
                · subst g1
                  have hw : wantN cs (((1 : Nat) : Int) - 2) nn = nn := rfl
                  have hl : letR cs (((1 : Nat) : Int) - 2) i = false := rfl
                  rw [hw] at HI HG HRF
                  rw [hl] at HRF
                  clear hw hl
                  obtain ⟨want, rfl⟩ : ∃ want : Int, want = nn := ⟨_, rfl⟩
                  by_cases q0 : i < 0
                  · have r0 : decide (0 ≤ i) = false := by simp; omega
                    rw [decide_eq_false (by omega : ¬ (0 ≤ i ∧ i < want))] at HG HRF
                    rw [Bool.false_and] at HRF
                    go_wp2_with fail
                    refine HY.out.mono ?_
                    rintro e w5 ⟨rfl, hH5, hu5⟩
                    have hU5 := hU.trans' hu5 (fun q hq hlt2 => by have := hLB.out q hq; omega)
                    go_wp2_with fail
                    refine (HI.out _ hH5).mono ?_
                    rintro e w' ⟨rfl, rfl⟩
                    go_wp2_with fail
                    refine (HG.out _ hH5).mono ?_
                    rintro e w' ⟨rfl, rfl⟩
                    go_wp2_with fail
                    refine (HRF.out _ hH5).mono ?_
                    rintro e w' ⟨rfl, rfl⟩
                    go_wp2_with fail
                    go_roundw
                    case rel => exact ⟨1 + 1, S', by omega, by go_num, hH5, HS'.out, hU5⟩
                    case measure => first | (simp [intOf]; done) | (simp [intOf]; omega)
                  · have r0 : decide (0 ≤ i) = true := by simp; omega
                    by_cases q1 : i < want
                    · have r1 : decide (i < want) = true := by simp; omega
                      rw [decide_eq_true (by omega : 0 ≤ i ∧ i < want)] at HG HRF
                      rw [Bool.true_and] at HRF
                      go_wp2_with fail
                      refine HY.out.mono ?_
                      rintro e w5 ⟨rfl, hH5, hu5⟩
                      have hU5 := hU.trans' hu5 (fun q hq hlt2 => by have := hLB.out q hq; omega)
                      go_wp2_with fail
                      refine (HI.out _ hH5).mono ?_
                      rintro e w' ⟨rfl, rfl⟩
                      go_wp2_with fail
                      refine (HG.out _ hH5).mono ?_
                      rintro e w' ⟨rfl, rfl⟩
                      go_wp2_with fail
                      refine (HRF.out _ hH5).mono ?_
                      rintro e w' ⟨rfl, rfl⟩
                      go_wp2_with fail
                      go_roundw
                      case rel => exact ⟨1 + 1, S', by omega, by go_num, hH5, HS'.out, hU5⟩
                      case measure => first | (simp [intOf]; done) | (simp [intOf]; omega)
                    · have r1 : decide (i < want) = false := by simp; omega
                      rw [decide_eq_false (by omega : ¬ (0 ≤ i ∧ i < want))] at HG HRF
                      rw [Bool.false_and] at HRF
                      go_wp2_with fail
                      refine HY.out.mono ?_
                      rintro e w5 ⟨rfl, hH5, hu5⟩
                      have hU5 := hU.trans' hu5 (fun q hq hlt2 => by have := hLB.out q hq; omega)
                      go_wp2_with fail
                      refine (HI.out _ hH5).mono ?_
                      rintro e w' ⟨rfl, rfl⟩
                      go_wp2_with fail
                      refine (HG.out _ hH5).mono ?_
                      rintro e w' ⟨rfl, rfl⟩
                      go_wp2_with fail
                      refine (HRF.out _ hH5).mono ?_
                      rintro e w' ⟨rfl, rfl⟩
                      go_wp2_with fail
                      go_roundw
                      case rel => exact ⟨1 + 1, S', by omega, by go_num, hH5, HS'.out, hU5⟩
                      case measure => first | (simp [intOf]; done) | (simp [intOf]; omega)
                · obtain ⟨k, rfl⟩ : ∃ k : Nat, j = k + 2 := ⟨j - 2, by omega⟩
                  have ek : (((k + 2 : Nat) : Int) - 2) = (k : Int) := by omega
                  rw [ek] at HI HG HRF HY ⊢
                  have hkl : k < cs.length := by omega
                  obtain ⟨b, o, rfl, hsz, hcell⟩ := HCX.out k hkl
                  have hw : wantN cs (k : Int) nn = ((cs.getD k ByteArray.empty).size : Int) := by unfold wantN; rw [if_pos (by omega), Int.toNat_natCast]
                  have hl : letR cs (k : Int) i = decide ((cs.getD k ByteArray.empty).get! i.toNat = 82) := by
                    unfold letR
                    rw [decide_eq_false (by omega : ¬ (k : Int) = -2), decide_eq_true (by omega : 0 ≤ (k : Int)), Int.toNat_natCast]; simp
                  rw [hw] at HI HG HRF
                  rw [hl] at HRF
                  have hx := hU.cell hcell (by simp)
                  have hs10 : (cs.getD k ByteArray.empty).size ≤ 10 := by
                    rw [List.getD_eq_getElem?_getD, List.getElem?_eq_getElem hkl]
                    exact hok.small _ (List.getElem_mem hkl)
                  clear hw hl ek
                  generalize cs.getD k ByteArray.empty = s at HI HG HRF hcell hx hs10
                  by_cases q0 : i < 0
                  · have r0 : decide (0 ≤ i) = false := by simp; omega
                    rw [decide_eq_false (by omega : ¬ (0 ≤ i ∧ i < (s.size : Int)))] at HG HRF
                    rw [Bool.false_and] at HRF
                    go_wp2_with fail
                    refine HY.out.mono ?_
                    rintro e w5 ⟨rfl, hH5, hu5⟩
                    have hU5 := hU.trans' hu5 (fun q hq hlt2 => by have := hLB.out q hq; omega)
                    have hx5 := hU5.cell hcell (by simp)
                    go_wp2_with fail
                    refine (HI.out _ hH5).mono ?_
                    rintro e w' ⟨rfl, rfl⟩
                    go_wp2_with fail
                    refine (HG.out _ hH5).mono ?_
                    rintro e w' ⟨rfl, rfl⟩
                    go_wp2_with fail
                    refine (HRF.out _ hH5).mono ?_
                    rintro e w' ⟨rfl, rfl⟩
                    go_wp2_with fail
                    go_roundw
                    case rel => exact ⟨k + 2 + 1, S', by omega, by go_num, hH5, HS'.out, hU5⟩
                    case measure => first | (simp [intOf]; done) | (simp [intOf]; omega)
                  · have r0 : decide (0 ≤ i) = true := by simp; omega
                    by_cases q1 : i < (s.size : Int)
                    · have r1 : decide (i < (s.size : Int)) = true := by simp; omega
                      rw [decide_eq_true (by omega : 0 ≤ i ∧ i < (s.size : Int))] at HG HRF
                      rw [Bool.true_and] at HRF
                      obtain ⟨m, rfl⟩ := Int.eq_ofNat_of_zero_le (show 0 ≤ i by omega)
                      have hm : m < s.size := by omega
                      have hby := byte_eq s m 82 hm
                      rw [Int.toNat_natCast] at HRF
                      cases hbb : decide (s.get! m = 82) with
                      | true =>
                        rw [hbb] at HRF hby
                        have HBB := Lib.hid hbb
                        clear hbb
                        have hby2 : (((s[m]'hm).toNat : Int) == 82) = true := hby
                        clear hby
                        go_wp2_with fail
                        refine HY.out.mono ?_
                        rintro e w5 ⟨rfl, hH5, hu5⟩
                        have hU5 := hU.trans' hu5 (fun q hq hlt2 => by have := hLB.out q hq; omega)
                        have hx5 := hU5.cell hcell (by simp)
                        go_wp2_with fail
                        refine (HI.out _ hH5).mono ?_
                        rintro e w' ⟨rfl, rfl⟩
                        go_wp2_with fail
                        refine (HG.out _ hH5).mono ?_
                        rintro e w' ⟨rfl, rfl⟩
                        go_wp2_with fail
                        refine (HRF.out _ hH5).mono ?_
                        rintro e w' ⟨rfl, rfl⟩
                        go_wp2_with fail
                        go_roundw
                        case rel => exact ⟨k + 2 + 1, S', by omega, by go_num, hH5, HS'.out, hU5⟩
                        case measure => first | (simp [intOf]; done) | (simp [intOf]; omega)
                      | false =>
                        rw [hbb] at HRF hby
                        have HBB := Lib.hid hbb
                        clear hbb
                        have hby2 : (((s[m]'hm).toNat : Int) == 82) = false := hby
                        clear hby
                        go_wp2_with fail
                        refine HY.out.mono ?_
                        rintro e w5 ⟨rfl, hH5, hu5⟩
                        have hU5 := hU.trans' hu5 (fun q hq hlt2 => by have := hLB.out q hq; omega)
                        have hx5 := hU5.cell hcell (by simp)
                        go_wp2_with fail
                        refine (HI.out _ hH5).mono ?_
                        rintro e w' ⟨rfl, rfl⟩
                        go_wp2_with fail
                        refine (HG.out _ hH5).mono ?_
                        rintro e w' ⟨rfl, rfl⟩
                        go_wp2_with fail
                        refine (HRF.out _ hH5).mono ?_
                        rintro e w' ⟨rfl, rfl⟩
                        go_wp2_with fail
                        go_roundw
                        case rel => exact ⟨k + 2 + 1, S', by omega, by go_num, hH5, HS'.out, hU5⟩
                        case measure => first | (simp [intOf]; done) | (simp [intOf]; omega)
                    · have r1 : decide (i < (s.size : Int)) = false := by simp; omega
                      rw [decide_eq_false (by omega : ¬ (0 ≤ i ∧ i < (s.size : Int)))] at HG HRF
                      rw [Bool.false_and] at HRF
                      go_wp2_with fail
                      refine HY.out.mono ?_
                      rintro e w5 ⟨rfl, hH5, hu5⟩
                      have hU5 := hU.trans' hu5 (fun q hq hlt2 => by have := hLB.out q hq; omega)
                      have hx5 := hU5.cell hcell (by simp)
                      go_wp2_with fail
                      refine (HI.out _ hH5).mono ?_
                      rintro e w' ⟨rfl, rfl⟩
                      go_wp2_with fail
                      refine (HG.out _ hH5).mono ?_
                      rintro e w' ⟨rfl, rfl⟩
                      go_wp2_with fail
                      refine (HRF.out _ hH5).mono ?_
                      rintro e w' ⟨rfl, rfl⟩
                      go_wp2_with fail
                      go_roundw
                      case rel => exact ⟨k + 2 + 1, S', by omega, by go_num, hH5, HS'.out, hU5⟩
                      case measure => first | (simp [intOf]; done) | (simp [intOf]; omega)
            · have hj2 : j = cs.length + 2 := by omega
              go_wp2_with fail
              go_ret
              exact ⟨rfl, hU⟩
        · have hzb : (c != 0) = true := by rw [bne_iff_ne]; exact hz
          go_wp2_with fail
          go_ret
          exact ⟨rfl, hK2.u⟩

end Go.Proofs.YtlkflkgohclbmaaDoor
