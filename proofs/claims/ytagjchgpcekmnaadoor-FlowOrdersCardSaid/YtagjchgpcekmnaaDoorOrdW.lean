/- FlowOrders: the law's walk. -/
import Derived.Test.YtagjchgpcekmnaaDoorFirst5
import Derived.Test.YtagjchgpcekmnaaDoorLight5
import Derived.Test.YtagjchgpcekmnaaDoorOrdL
import Derived.Deep.QuietTactic
import Derived.BigQuiet
namespace Go.Proofs.YtagjchgpcekmnaaDoor
open Go.RowKit

theorem back_row {w : World} {B : Nat} {T : TypeId} {bv : Value} {bs : List Nat} (h : w.ownsRow B T 1 bv bs.length (bs.map pairV)) :
    bs.length ≤ maxLen ∧ ∃ p c, bv = .slice p bs.length c ∧ ∀ k, k < bs.length → ∃ gk, p = some ⟨gk, 0, none⟩ ∧ w.cell? ⟨gk, k, none⟩ = some (pairV (bs.getD k 0)) := by
  rcases h.2 with ⟨h1, h2⟩ | ⟨gk, ck, _, h1, _, _, hc, hcm, _⟩
  · have h0 : bs.length = 0 := by simpa using h2
    exact ⟨by rw [h0]; simp [maxLen], none, 0, by rw [h1, h0], fun k hk => by omega⟩
  · refine ⟨Nat.le_trans hc hcm, _, _, h1, fun k hk => ⟨gk, rfl, ?_⟩⟩
    have h3 := h.cells (g := gk) (by rw [h1]; rfl) k (pairV (bs.getD k 0)) (by
      rw [List.getElem?_map, List.getElem?_eq_getElem hk, List.getD_eq_getElem?_getD, List.getElem?_eq_getElem hk]; rfl)
    rwa [Addr.add_lit, Nat.zero_add] at h3
theorem ints_ne {o : List Nat} (h : 0 < o.length) : ints o ≠ [] := fun e => by
  have := congrArg List.length e
  rw [ints_len, List.length_nil] at this
  omega
theorem pair_ints {w : World} {G sb : Nat} {pv bv : Value} {s : Dfs} {bs : List Nat} (h : WkEnd w G sb pv bv s bs) (k : Nat) (hk : k < bs.length) :
    IntsV w (pairV (bs.getD k 0)) (bs.getD k 0) [((s.back.getD k (0, 0)).1 : Int), ((s.back.getD k (0, 0)).2 : Int)] := by
  refine ⟨.inr ⟨2, rfl⟩, fun i hi => ?_⟩
  rw [cell_of (h.pair k hk).1]
  exact icells_get _ _ hi
theorem pair_mem (l : List (Nat × Nat)) (i j m : Nat) (h : m < l.length) : (decide ((i, j) ∈ l.take m) || decide ([((l.getD m (0, 0)).1 : Int), ((l.getD m (0, 0)).2 : Int)] = [(i : Int), (j : Int)])) = decide ((i, j) ∈ l.take (m + 1)) := by
  rw [take_snoc l m (0, 0) h]
  generalize l.getD m (0, 0) = p
  obtain ⟨x, y⟩ := p
  rw [Bool.eq_iff_iff]
  simp only [Bool.or_eq_true, decide_eq_true_eq, List.mem_append, List.mem_singleton, Prod.mk.injEq, List.cons.injEq, and_true]
  constructor
  · rintro (h | ⟨h1, h2⟩)
    · exact .inl h
    · exact .inr ⟨by omega, by omega⟩
  · rintro (h | ⟨h1, h2⟩)
    · exact .inl h
    · exact .inr ⟨by omega, by omega⟩

set_option maxRecDepth 100000 in
set_option maxHeartbeats 8000000 in
theorem ordersW_any (v : Value) (g : List (List Int)) (w : World) (h : RowsAt w v g) (hT : TzAt w) :
    Calls Tryd.prog 6 #[v] w fun e w' => e = .returned (.bool true) ∧ Upd [] w w' := by
  have HR := Lib.hid h
  have HT := Lib.hid hT
  obtain ⟨a, cap, rfl, hl, hrow⟩ := h
  unfold maxLen at hl
  have HROW := Lib.hid hrow
  clear hrow hT
  go_enter Tryd.func6, Tryd.ntmps6
  go_wp2_with fail
  refine (first5_any w HT.out).mono ?_
  rintro e w1 ⟨rfl, hU1⟩
  have HU1 := Lib.hid hU1
  clear hU1
  go_wp2_with fail
  refine (light5_any _ g w1 (HR.out.upd HU1.out)).mono ?_
  rintro e w2 ⟨b, rfl, hb, hU2⟩
  have HU2 := Lib.hid (HU1.out.trans hU2)
  clear hU2
  cases b with
  | false =>
    go_wp2_with fail
    go_ret
    exact ⟨rfl, HU2.out⟩
  | true =>
    obtain ⟨hg, hgl⟩ := hb rfl
    have HGL := Lib.hid hgl
    clear hb hgl
    by_cases h0 : g.length = 0
    · have d0 : ((g.length : Int) == 0) = true := by rw [beq_iff_eq]; omega
      clear h0
      go_wp2_with fail
      go_ret
      exact ⟨rfl, HU2.out⟩
    · have d0 : ((g.length : Int) == 0) = false := by rw [beq_eq_false_iff_ne]; omega
      have hg0 : 0 < g.length := by omega
      clear h0
      have HOI := Lib.hid (ord_is g hg0)
      go_wp2_with fail
      refine (order_any _ g w2 (HR.out.upd HU2.out) (by omega) (fun l hl => by have := HGL.out l hl; omega)).mono ?_
      rintro e w3 ⟨u, rfl, hO, hU3⟩
      have HU3 := Lib.hid (HU2.out.trans hU3)
      have HO := Lib.hid hO
      clear hO hU3
      go_wp2_with fail
      refine (loops_any _ g w3 (HR.out.upd HU3.out) (by omega) (fun l hl => by have := HGL.out l hl; omega)).mono ?_
      rintro e w4 ⟨sb, pv, bv, bs, rfl, hE, hU4⟩
      have HU4 := Lib.hid (HU3.out.trans hU4)
      have HO4 := Lib.hid (HO.out.upd hU4 (by simp))
      have HE := Lib.hid hE
      clear hE hU4 HO
      go_wp2_with fail
      refine (reach_any _ g w4 (HR.out.upd HU4.out) (by omega) (fun l hl => by have := HGL.out l hl; omega)).mono ?_
      rintro e w5 ⟨rb, rfl, hR, hrb, hU5⟩
      have HU5 := Lib.hid (HU4.out.trans hU5)
      have HO5 := Lib.hid (HO4.out.upd hU5 (by simp))
      have HE5 := Lib.hid (HE.out.upd0 hU5)
      have HRB := Lib.hid hR
      clear hR hU5 HO4 HE
      generalize hds : dfs (cleanG g) = s at HOI HO5 HE5 HRB
      clear hds
      generalize ho : s.post.reverse = o at HOI HO5
      clear ho
      have HON := Lib.hid HOI.out.ne
      have hop := HOI.out.ne
      have hol : o.length ≤ 60 := by
        have h1 := len_leN g.length o HOI.out.nd HOI.out.lt
        omega
      obtain ⟨bo, hio, hbo⟩ := HO5.out.ints
      have hbo := hbo.resolve_left (ints_ne hop)
      obtain ⟨cu, rfl⟩ : ∃ cu, u = .slice (some ⟨bo, 0, none⟩) o.length cu := by
        rcases hio.1 with ⟨_, e⟩ | ⟨c, e⟩
        · exact absurd e (ints_ne hop)
        · exact ⟨c, by rw [e, ints_len]⟩
      have hoc : ∀ k, k < o.length → w5.cell? ⟨bo, k, none⟩ = some (.int .i64 ((o.getD k 0 : Nat) : Int)) := fun k hk => by
        have := hio.2 k (by rw [ints_len]; exact hk)
        rw [this, ints_get _ _ hk]
      obtain ⟨hbm, pb, cb, rfl, hbk⟩ := back_row HE5.out.back
      unfold maxLen at hbm
      have HBLN := Lib.hid HE5.out.bln
      have HPI := Lib.hid (fun k hk => pair_ints HE5.out k hk)
      have HOC := Lib.hid hoc
      have HBK := Lib.hid hbk
      have hbs := fun k hk => lt_of_heap (HE5.out.pair k hk).1
      have HBS := Lib.hid hbs
      have hrbs := lt_of_heap HRB.out
      have hobs := hbo.2
      have hmk := make_intsN w5 g.length (by omega)
      have hbx := heap_alloc_new w5 (.cells (icells (List.replicate g.length 0)) 3)
      have hu6 := (Upd.refl [] w5).alloc (.cells (icells (List.replicate g.length 0)) 3)
      have HBX := Lib.hid hbx
      have H6 := Lib.hid hu6
      have hz6 := World.size_alloc w5 (.cells (icells (List.replicate g.length 0)) 3)
      clear hoc hbk hbs hbo hio HO5 HE5 hbx hu6
      go_wp2_with fail
      generalize hw6 : w5.alloc (.cells (icells (List.replicate g.length 0)) 3) = w6 at HBX H6 hz6 ⊢
      clear hw6 hmk
      go_loopw [8] (fun iv wr => ∃ m : Nat, m ≤ g.length ∧ iv = .int .i64 m ∧ Hid (wr.heap[w5.heap.size]? = some (.cells (icells (atM g.length m)) 3)) ∧ Upd [w5.heap.size] w6 wr) (fun iv _ => g.length - (intOf iv).toNat)
      case atStart => exact ⟨0, by omega, rfl, by rw [atM_zero]; exact HBX, Upd.refl _ _⟩
      case round =>
        obtain ⟨m, hm, rfl, hb, hU⟩ := hrel
        obtain ⟨wo, rfl⟩ : ∃ wo : World, wo = wr := ⟨_, rfl⟩
        by_cases hlt : m < g.length
        · have hc : wo.cell? ⟨w5.heap.size, m, none⟩ = some (.int .i64 ((atM g.length m).getD m 0)) := by
            rw [cell_of hb.out, icells_get _ _ (by rw [atM_len]; exact hlt)]
          have hf := froz_of hb.out m
          have HSET := Lib.hid (atM_step g.length m hlt)
          go_wp2_with fail
          go_roundw
          case rel =>
            refine ⟨m + 1, by omega, by go_num, ?_, hU.setCell (.inl (by simp)) _⟩
            rw [← HSET.out]
            show _ = _
            rw [heap_setCell hb.out, icells_set]
          case measure => simp [intOf]; omega
        · obtain rfl : m = g.length := by omega
          have hb1 := hb.out
          rw [atM_all] at hb1
          have HB1 := Lib.hid hb1
          have HUo := Lib.hid hU
          clear hb1 hb hU HBX
          go_wp2_with fail
          go_loopw [9] (fun iv wr => ∃ m : Nat, m ≤ o.length ∧ iv = .int .i64 m ∧ Hid (wr.heap[w5.heap.size]? = some (.cells (icells (atR (o.take m) g.length)) 3)) ∧ Upd [w5.heap.size] w6 wr) (fun iv _ => o.length - (intOf iv).toNat)
          case atStart => exact ⟨0, by omega, rfl, HB1, HUo.out⟩
          case round =>
            clear HB1 HUo
            obtain ⟨m, hm, rfl, hb, hU⟩ := hrel
            obtain ⟨wq, rfl⟩ : ∃ wq : World, wq = wr := ⟨_, rfl⟩
            by_cases hlt : m < o.length
            · have hx := hU.cell (H6.out.cell (HOC.out m hlt) (by simp)) (by simp; omega)
              have hxm : o.getD m 0 ∈ o := by
                rw [List.getD_eq_getElem?_getD, List.getElem?_eq_getElem hlt]
                exact List.getElem_mem hlt
              have hxn := HOI.out.lt _ hxm
              have hno := take_not o m HOI.out.nd hlt
              have HSET := Lib.hid (atR_step o g.length m HOI.out.nd hlt)
              have hc : wq.cell? ⟨w5.heap.size, o.getD m 0, none⟩ = some (.int .i64 (-1)) := by
                rw [cell_of hb.out, icells_get _ _ (by rw [atR_len]; exact hxn), atR_get _ _ _ hxn]
                unfold atv
                rw [if_neg hno]
              have hf := froz_of hb.out (o.getD m 0)
              clear hno hxm
              generalize o.getD m 0 = x at hx hxn HSET hc hf
              have d1 : decide ((x : Int) < 0) = false := by simp
              have d2 : decide ((x : Int) ≥ (g.length : Int)) = false := by simp; omega
              have d3 : decide ((g.length : Int) ≤ (x : Int)) = false := by simp; omega
              go_wp2_with fail
              go_roundw
              case rel =>
                refine ⟨m + 1, by omega, by go_num, ?_, hU.setCell (.inl (by simp)) _⟩
                rw [← HSET.out]
                show _ = _
                rw [heap_setCell hb.out, icells_set]
              case measure => simp [intOf]; omega
            · obtain rfl : m = o.length := by omega
              have hb1 := hb.out
              rw [List.take_length] at hb1
              have HB1 := Lib.hid hb1
              have H7 := Lib.hid hU
              have hx0 := hU.cell (H6.out.cell (HOC.out 0 hop) (by simp)) (by simp; omega)
              rw [HOI.out.first] at hx0
              have e0 : ((o.length : Int) == 0) = false := by rw [beq_eq_false_iff_ne]; omega
              clear hb1 hb hU
              have HL5 : Hid (∀ wr, Upd [] wq wr → ∀ p v, w5.cell? p = some v → wr.cell? p = some v) := fun wr hur p v hp =>
                hur.cell (H7.out.cell (H6.out.cell hp (by simp)) (by simp; have := World.block_lt_of_cell? w5 p hp; omega)) (by simp)
              have HLW : Hid (∀ wr, Upd [] wq wr → ∀ p v, w.cell? p = some v → wr.cell? p = some v) := fun wr hur p v hp => HL5.out wr hur p v (HU5.out.cell hp (by simp))
              have HRC : Hid (∀ wr, Upd [] wq wr → ∀ k, k < g.length → wr.cell? ⟨rb, k, none⟩ = some (.bool (decide (k ∈ o)))) := fun wr hur k hk => by
                refine HL5.out wr hur _ _ ?_
                rw [cell_of HRB.out, bcells_get _ _ (by rw [fillB_len]; exact hk), fillB_get _ _ _ _ hk, if_pos hk]
                exact congrArg (fun z => some (Value.bool z)) (decide_eq_decide.2 (HOI.out.st2 k))
              have HAC : Hid (∀ wr, Upd [] wq wr → ∀ k, k < g.length → wr.cell? ⟨w5.heap.size, k, none⟩ = some (.int .i64 (atv o k))) := fun wr hur k hk => by
                refine hur.cell ?_ (by simp)
                rw [cell_of HB1.out, icells_get _ _ (by rw [atR_len]; exact hk), atR_get _ _ _ hk]
              have HPQ : Hid (∀ wr, Upd [] wq wr → ∀ k, k < bs.length → IntsV wr (pairV (bs.getD k 0)) (bs.getD k 0) [((s.back.getD k (0, 0)).1 : Int), ((s.back.getD k (0, 0)).2 : Int)]) := fun wr hur k hk =>
                (((HPI.out k hk).upd H6.out (Or.inr (by simp))).upd H7.out (Or.inr (fun hm => by have := HBS.out k hk; rw [List.mem_singleton] at hm; omega))).upd hur (Or.inr (by simp))
              have HED := Lib.hid HOI.out.edge
              clear HPI HB1 HRB HOC
              go_wp2_with fail
              go_loopw [10] (fun iv wr => ∃ i : Nat, i ≤ g.length ∧ iv = .int .i64 i ∧ Hid (Upd [] wq wr)) (fun iv _ => g.length - (intOf iv).toNat)
              case atStart => exact ⟨0, by omega, rfl, Upd.refl _ _⟩
              case round =>
                clear hx0
                obtain ⟨i, hi, rfl, HU⟩ := hrel
                obtain ⟨wz, rfl⟩ : ∃ wz : World, wz = wr := ⟨_, rfl⟩
                by_cases hlt : i < g.length
                · obtain ⟨b, ro, rv, rfl, hcell0, a2, cap2, rfl, hl2, hx⟩ := HROW.out i hlt
                  have hcell := HLW.out wz HU.out _ _ hcell0
                  have HC0 := Lib.hid hcell0
                  have HX := Lib.hid hx
                  have hr := HRC.out wz HU.out i hlt
                  have ha := HAC.out wz HU.out i hlt
                  have hrb : (g.getD i []).length ≤ 400 := HGL.out _ (by
                    rw [List.getD_eq_getElem?_getD, List.getElem?_eq_getElem hlt]
                    exact List.getElem_mem hlt)
                  clear hcell0 hx
                  by_cases hio : i ∈ o
                  · rw [decide_eq_true hio] at hr
                    have hai : 0 ≤ atv o i := (atv_nonneg o i).2 hio
                    have HEI := Lib.hid (HED.out i hio)
                    have HAI : Hid (∀ wr, Upd [] wq wr → wr.cell? ⟨w5.heap.size, i, none⟩ = some (.int .i64 (atv o i))) := fun wr hur => HAC.out wr hur i hlt
                    have HRI : Hid (∀ wr, Upd [] wq wr → wr.cell? ⟨rb, i, none⟩ = some (.bool true)) := fun wr hur => by
                      have := HRC.out wr hur i hlt
                      rwa [decide_eq_true hio] at this
                    generalize g.getD i [] = row at hcell HC0 HX hrb HEI hl2
                    generalize atv o i = ai at ha hai HEI HAI
                    have d1 : decide (ai ≥ 0) = true := decide_eq_true hai
                    have d2 : decide (0 ≤ ai) = true := decide_eq_true hai
                    clear hio
                    go_wp2_with fail
                    go_quiet (fail)
                    go_wp2_with fail
                    go_loopw [11] (fun kv wr => ∃ k : Nat, k ≤ row.length ∧ kv = .int .i64 k ∧ Hid (Upd [] wq wr)) (fun kv _ => row.length - (intOf kv).toNat)
                    case atStart => exact ⟨0, by omega, rfl, HU.out.drewN _⟩
                    case round =>
                      clear hr ha hcell HU
                      obtain ⟨k, hk, rfl, HU⟩ := hrel
                      obtain ⟨wk, rfl⟩ : ∃ wk : World, wk = wr := ⟨_, rfl⟩
                      have hcell := HLW.out wk HU.out _ _ HC0.out
                      have hr := HRI.out wk HU.out
                      by_cases hkl : k < row.length
                      · obtain ⟨b2, o2, rfl, hbd, hy0⟩ := HX.out k hkl
                        have hy := HLW.out wk HU.out _ _ hy0
                        have hjm : row.getD k 0 ∈ row := by
                          rw [List.getD_eq_getElem?_getD, List.getElem?_eq_getElem hkl]
                          exact List.getElem_mem hkl
                        have HJM := Lib.hid hjm
                        clear hy0 hjm
                        generalize row.getD k 0 = x at hy hbd HJM
                        by_cases hx0 : x < 0
                        · have e0 : decide (x < 0) = true := decide_eq_true hx0
                          go_wp2_with fail
                          go_roundw
                          case rel => exact ⟨k + 1, by omega, by go_num, HU⟩
                          case measure => simp [intOf]; omega
                        · have e0 : decide (x < 0) = false := decide_eq_false hx0
                          by_cases hxn : x ≥ (g.length : Int)
                          · have e1 : decide (x ≥ (g.length : Int)) = true := decide_eq_true hxn
                            go_wp2_with fail
                            go_roundw
                            case rel => exact ⟨k + 1, by omega, by go_num, HU⟩
                            case measure => simp [intOf]; omega
                          · have e1 : decide (x ≥ (g.length : Int)) = false := decide_eq_false hxn
                            obtain ⟨j, rfl⟩ := Int.eq_ofNat_of_zero_le (show 0 ≤ x by omega)
                            have hjn : j < g.length := by omega
                            have HJ := Lib.hid (HEI.out j hjn HJM.out)
                            have e3 : decide (g.length ≤ j) = false := decide_eq_false (by omega)
                            clear hx0 hxn
                            go_wp2_with fail
                            go_loopw [13, 14] (fun bv nv wr => ∃ m : Nat, m ≤ bs.length ∧ nv = .int .i64 m ∧ bv = .bool (decide ((i, j) ∈ s.back.take m)) ∧ Hid (Upd [] wq wr)) (fun _ nv _ => bs.length - (intOf nv).toNat)
                            case atStart => exact ⟨0, by omega, rfl, by simp, HU⟩
                            case round =>
                              clear hcell hr hy HU
                              obtain ⟨m, hm, rfl, rfl, HU⟩ := hrel
                              obtain ⟨wm, rfl⟩ : ∃ wm : World, wm = wr := ⟨_, rfl⟩
                              by_cases hml : m < bs.length
                              · have HPM := Lib.hid (pair_mem s.back i j m (by have := HBLN.out; omega))
                                obtain ⟨gk, rfl, hck0⟩ := HBK.out m hml
                                have hck := HL5.out wm HU.out _ _ hck0
                                clear hck0
                                generalize decide ((i, j) ∈ s.back.take m) = bb at HPM ⊢
                                cases bb with
                                | true =>
                                  go_wp2_with fail
                                  go_roundw
                                  case rel => exact ⟨m + 1, by omega, by go_num, by rw [← HPM.out]; simp, HU⟩
                                  case measure => simp [intOf]; omega
                                | false =>
                                  have HIV := Lib.hid (HPQ.out wm HU.out m hml)
                                  unfold pairV at hck HIV
                                  generalize bs.getD m 0 = bm at hck HIV
                                  generalize (s.back.getD m (0, 0)).1 = p1 at HIV HPM
                                  generalize (s.back.getD m (0, 0)).2 = p2 at HIV HPM
                                  go_wp2_with fail
                                  have hlit := ints_lit wm [(i : Int), (j : Int)] 3 (cs := #[.int .i64 i, .int .i64 j]) rfl
                                  refine (sints _ _ bm _ [(p1 : Int), (p2 : Int)] [(i : Int), (j : Int)] _ (HIV.out.upd ((Upd.refl [] wm).alloc _) (by simp)) hlit (by simp)).mono ?_
                                  rintro e w9 ⟨rfl, hU9⟩
                                  have HU9 := Lib.hid (HU.out.trans (((Upd.refl [] wm).alloc _).trans hU9))
                                  have HPM2 := HPM.out
                                  rw [Bool.false_or] at HPM2
                                  generalize hq2 : decide ((i, j) ∈ s.back.take (m + 1)) = b2 at HPM2
                                  have HPM3 := Lib.hid hq2
                                  rw [HPM2]
                                  clear hlit hU9 HPM2 hck hq2
                                  go_wp2_with fail
                                  go_roundw
                                  case rel =>
                                    exact ⟨m + 1, by omega, by go_num, by rw [HPM3.out], HU9⟩
                                  case measure => simp [intOf]; omega
                              · obtain rfl : m = bs.length := by omega
                                have hjo := HJ.out.1
                                have hje := HJ.out.2
                                have etk : s.back.take bs.length = s.back := by rw [HBLN.out, List.take_length]
                                rw [etk]
                                clear etk
                                have hrj := HRC.out wm HU.out j hjn
                                rw [decide_eq_true hjo] at hrj
                                have haj := HAC.out wm HU.out j hjn
                                have hai2 := HAI.out wm HU.out
                                generalize atv o j = aj at haj hje
                                clear hjo
                                by_cases hbb : (i, j) ∈ s.back
                                · have f1 : decide (aj ≤ ai) = true := decide_eq_true (hje.2 hbb)
                                  rw [decide_eq_true hbb]
                                  clear hje hbb
                                  go_wp2_with fail
                                  go_quiet (fail)
                                  go_wp2_with fail
                                  go_roundw
                                  case rel => exact ⟨k + 1, by omega, by go_num, HU.out.drewN _⟩
                                  case measure => simp [intOf]; omega
                                · have f1 : decide (aj ≤ ai) = false := decide_eq_false (fun h => hbb (hje.1 h))
                                  rw [decide_eq_false hbb]
                                  clear hje hbb
                                  go_wp2_with fail
                                  go_quiet (fail)
                                  go_wp2_with fail
                                  go_roundw
                                  case rel => exact ⟨k + 1, by omega, by go_num, HU.out.drewN _⟩
                                  case measure => simp [intOf]; omega
                      · obtain rfl : k = row.length := by omega
                        go_wp2_with fail
                        go_roundw
                        case rel => exact ⟨i + 1, by omega, by go_num, HU⟩
                        case measure => simp [intOf]; omega
                  · rw [decide_eq_false hio] at hr
                    rw [show atv o i = -1 from if_neg hio] at ha
                    have HRI : Hid (∀ wr, Upd [] wq wr → wr.cell? ⟨rb, i, none⟩ = some (.bool false)) := fun wr hur => by
                      have := HRC.out wr hur i hlt
                      rwa [decide_eq_false hio] at this
                    clear hio
                    go_wp2_with fail
                    go_quiet (fail)
                    go_wp2_with fail
                    go_loopw [11] (fun kv wr => kv = .int .i64 0 ∧ Hid (Upd [] wq wr)) (fun _ _ => 0)
                    case atStart => exact ⟨rfl, HU.out.drewN _⟩
                    case round =>
                      clear hr ha hcell HU
                      obtain ⟨rfl, HU⟩ := hrel
                      obtain ⟨wk, rfl⟩ : ∃ wk : World, wk = wr := ⟨_, rfl⟩
                      have hcell := HLW.out wk HU.out _ _ HC0.out
                      have hr := HRI.out wk HU.out
                      by_cases hz : 0 < (g.getD i []).length
                      · generalize (g.getD i []).length = rl at hcell hz hl2
                        go_wp2_with fail
                        go_roundw
                        case rel => exact ⟨i + 1, by omega, by go_num, HU⟩
                        case measure => simp [intOf]; omega
                      · have hz0 : (g.getD i []).length = 0 := by omega
                        rw [hz0] at hcell
                        clear hz hz0
                        go_wp2_with fail
                        go_roundw
                        case rel => exact ⟨i + 1, by omega, by go_num, HU⟩
                        case measure => simp [intOf]; omega
                · obtain rfl : i = g.length := by omega
                  go_wp2_with fail
                  go_ret
                  exact ⟨rfl, HU5.out.trans ((H6.out.trans' H7.out (fun q hq hlt2 => by simp at hq; omega)).trans HU.out)⟩

end Go.Proofs.YtagjchgpcekmnaaDoor
