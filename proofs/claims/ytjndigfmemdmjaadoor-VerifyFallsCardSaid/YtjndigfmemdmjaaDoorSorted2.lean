/- overdriveref.Sorted: the walk. -/
import Derived.Test.YtjndigfmemdmjaaDoorSorted
import Derived.Test.YtjndigfmemdmjaaDoorStep
import Derived.Test.YtjndigfmemdmjaaDoorInfo
import Derived.Deep.DeepCutAuto
import Derived.Deep.CutBlock
import Derived.Deep.QuietTactic
import Derived.BigQuiet
namespace Go.Proofs.YtjndigfmemdmjaaDoor
open Go.RowKit

/-- A row of integers of one's own. -/
def OwnI (w : World) (base : Nat) (e : TypeId) (v : Value) (xs : List Int) : Prop := w.ownsRow base e 1 v xs.length (xs.map (Value.int .i64))

theorem OwnI.form {w : World} {base : Nat} {e : TypeId} {v : Value} {xs : List Int} (h : OwnI w base e v xs) : (v = .slice none 0 0 ∧ xs = []) ∨ ∃ g c, v = .slice (some ⟨g, 0, none⟩) xs.length c ∧ xs.length ≤ c ∧ base ≤ g ∧ g < w.heap.size ∧ ∀ i, i < xs.length → w.cell? ⟨g, i, none⟩ = some (.int .i64 (xs.getD i 0)) := by
  rcases h.2 with ⟨h1, h2⟩ | ⟨g, c, cur, h1, hb, hg, hc, _⟩
  · exact .inl ⟨h1, List.eq_nil_of_length_eq_zero h2⟩
  · refine .inr ⟨g, c, h1, hc, hb, lt_of_heap hg, fun i hi => ?_⟩
    have h3 := h.cells (g := g) (by rw [h1]; rfl) i (.int .i64 (xs.getD i 0)) (by
      rw [List.getElem?_map, List.getElem?_eq_getElem hi, List.getD_eq_getElem?_getD, List.getElem?_eq_getElem hi]; rfl)
    rwa [Addr.add_lit, Nat.zero_add] at h3
theorem OwnI.ints {w : World} {base : Nat} {e : TypeId} {v : Value} {xs : List Int} (h : OwnI w base e v xs) : ∃ b, IntsV w v b xs ∧ (xs = [] ∨ base ≤ b ∧ b < w.heap.size) := by
  rcases h.form with ⟨h1, h2⟩ | ⟨g, c, h1, h2, h3, h4, h5⟩
  · exact ⟨0, ⟨.inl ⟨h1, h2⟩, by rw [h2]; simp⟩, .inl h2⟩
  · exact ⟨g, ⟨.inr ⟨c, h1⟩, h5⟩, .inr ⟨h3, h4⟩⟩
theorem OwnI.upd {w w' : World} {base : Nat} {e : TypeId} {v : Value} {xs : List Int} {T : List Nat} (h : OwnI w base e v xs) (hu : Upd T w w') (hT : ∀ k, v.ownBlock = some k → k ∉ T) : OwnI w' base e v xs := row_upd h hu hT
theorem OwnI.nil (w : World) (base : Nat) (e : TypeId) : OwnI w base e (.slice none 0 0) [] := World.ownsRow_nil _ _ _ _

theorem cut_hi (w : World) (g len c q : Nat) (h : q ≤ c) : (Instr.slice 45 (.slice (some ⟨g, 0, none⟩) len c) none (some (.int .i64 (q : Int))) none).run Tryd.prog w = .ok (.slice (some ⟨g, 0, none⟩) q c) w := by
  have hsz : (sizeOf 3).run Tryd.prog w = .ok 1 w := by kernel_rfl
  have he : Tryd.prog.elem 45 = 3 := by kernel_rfl
  rw [run_slice_h w 45 _ _ _ (by rw [he]; exact Tryd.underlying45) .i64 (q : Int) (by omega) (by omega), he, hsz]
  simp [Result.andThen, sliced, Addr.add]
theorem cut_lo (w : World) (g len c q : Nat) (h : q ≤ len) : (Instr.slice 45 (.slice (some ⟨g, 0, none⟩) len c) (some (.int .i64 (q : Int))) none none).run Tryd.prog w = .ok (.slice (some ⟨g, if c = q then 0 else q, none⟩) (len - q) (c - q)) w := by
  have hsz : (sizeOf 3).run Tryd.prog w = .ok 1 w := by kernel_rfl
  have he : Tryd.prog.elem 45 = 3 := by kernel_rfl
  rw [run_slice_l w 45 _ _ _ (by rw [he]; exact Tryd.underlying45) .i64 (q : Int) (by omega) (by omega), he, hsz]
  simp only [Result.andThen, sliced, Int.toNat_natCast, Nat.mul_one, Option.map_some]
  split
  · rfl
  · simp [Addr.add]
    omega
theorem cut_nil (w : World) : (Instr.slice 45 (.slice none 0 0) none (some (.int .i64 0)) none).run Tryd.prog w = .ok (.slice none 0 0) w := by kernel_rfl
theorem cut_nil2 (w : World) : (Instr.slice 45 (.slice none 0 0) (some (.int .i64 0)) none none).run Tryd.prog w = .ok (.slice none 0 0) w := by kernel_rfl

theorem make_ints (w : World) (m : Nat) (mi : Int) (hmi : mi = m) (h : m ≤ 1000000) : (Instr.makeSlice 45 (.int .i64 0) (.int .i64 mi)).run Tryd.prog w = .ok (.slice (some ⟨w.heap.size, 0, none⟩) 0 m) (w.alloc (.cells (icells (List.replicate m 0)) 3)) := by
  subst hmi
  obtain ⟨i0, hi, hz0, hz1, hz2⟩ := info_parts Tryd.infoInt
  have hmk := run_make (P := Tryd.prog) w 45 3 i0 (.int .i64 0) Tryd.underlying45 hi hz0 .i64 .i64 0 (m : Int) (by omega) (by omega) (by rw [hz2]; omega) (by omega)
  rw [hz1, Nat.mul_one] at hmk
  simpa [madeCells_zero] using hmk

theorem row_base {w : World} {base base' : Nat} {e : TypeId} {size : Nat} {v : Value} {n : Nat} {xs : List Value} (h : w.ownsRow base e size v n xs) (hb : base' ≤ base) : w.ownsRow base' e size v n xs := by
  refine ⟨h.1, ?_⟩
  rcases h.2 with hn | ⟨g, cap, cur, hv, hbg, rest⟩
  · exact .inl hn
  · exact .inr ⟨g, cap, cur, hv, Nat.le_trans hb hbg, rest⟩

theorem made_row (w : World) (base m : Nat) (hb : base ≤ w.heap.size) (hm : m ≤ 1000000) : (w.alloc (.cells (icells (List.replicate m 0)) 3)).ownsRow base 3 1 (.slice (some ⟨w.heap.size, 0, none⟩) 0 m) 0 [] :=
  World.ownsRow_made w _ m hb (by unfold maxLen; omega) (by simp [icells])

/-- What is appended, out of a row that is only read. -/
theorem src_row {w : World} {g : Nat} {xs : List Int} (h : ∀ i, i < xs.length → w.cell? ⟨g, i, none⟩ = some (.int .i64 (xs.getD i 0))) (o m c : Nat) (hm : o + m ≤ xs.length) (off : Nat) (hoff : off = o ∨ m = 0) :
    SrcV w (.slice (some ⟨g, off, none⟩) m c) m (((xs.drop o).take m).map (Value.int .i64)) := by
  refine .inr ⟨_, c, rfl, fun j u hj => ?_⟩
  have hjl : j < m := by
    have := (List.getElem?_eq_some_iff.1 hj).1
    simp at this; omega
  have hoff' : off = o := by omega
  subst hoff'
  rw [List.getElem?_map, List.getElem?_take, if_pos hjl, List.getElem?_drop] at hj
  rw [Addr.add_lit, h (off + j) (by omega), List.getD_eq_getElem?_getD]
  rw [List.getElem?_eq_getElem (by omega)] at hj ⊢
  simpa using hj

theorem oneI (xs : List Int) : ∀ u ∈ xs.map (Value.int .i64), u.oneCell' = true := by
  intro u hu
  obtain ⟨_, _, rfl⟩ := List.mem_map.1 hu
  rfl

/-- The two parts of a row at q, as they are appended. -/
theorem parts {w : World} {base : Nat} {po : Option Addr} {co : Nat} {out : List Int} (h : OwnI w base 3 (.slice po out.length co) out) (q : Nat) (hq : q ≤ out.length) :
    ∃ po2 co2, (∀ w, (Instr.slice 45 (.slice po out.length co) none (some (.int .i64 (q : Int))) none).run Tryd.prog w = .ok (.slice po q co) w) ∧
      (∀ w, (Instr.slice 45 (.slice po out.length co) (some (.int .i64 (q : Int))) none none).run Tryd.prog w = .ok (.slice po2 (out.length - q) co2) w) ∧
      (∀ w', Upd [] w w' → SrcV w' (.slice po q co) q ((out.take q).map (Value.int .i64))) ∧ (∀ w', Upd [] w w' → SrcV w' (.slice po2 (out.length - q) co2) (out.length - q) ((out.drop q).map (Value.int .i64))) := by
  rcases h.form with ⟨h1, rfl⟩ | ⟨g, c, h1, h2, h3, h4, h5⟩
  · obtain rfl : q = 0 := by simpa using hq
    injection h1 with e1 e2 e3
    subst e1 e3
    exact ⟨none, 0, fun w => cut_nil w, fun w => cut_nil2 w, fun _ _ => .inl ⟨0, rfl, rfl, rfl⟩, fun _ _ => .inl ⟨0, rfl, rfl, rfl⟩⟩
  · injection h1 with e1 e2 e3
    subst e1 e3
    refine ⟨_, _, fun w => cut_hi w g out.length co q (by omega), fun w => cut_lo w g out.length co q hq, fun w' hu => ?_, fun w' hu => ?_⟩
    · have := src_row (w := w') (g := g) (xs := out) (fun i hi => hu.cell (h5 i hi) (by simp)) 0 q co (by omega) 0 (.inl rfl)
      simpa using this
    · have := src_row (w := w') (g := g) (xs := out) (fun i hi => hu.cell (h5 i hi) (by simp)) q (out.length - q) (co - q) (by omega) (if co = q then 0 else q) (by
        split
        · right; omega
        · left; rfl)
      rwa [List.take_of_length_le (by simp)] at this

set_option maxRecDepth 100000 in
set_option maxHeartbeats 2000000 in
theorem sorted_any (v : Value) (b : Nat) (xs : List Int) (w : World) (h : IntsV w v b xs) (hn : xs.length ≤ 100000) :
    Calls Tryd.prog 34 #[v] w fun e w' => ∃ u, e = .returned u ∧ OwnI w' w.heap.size 3 u (sortL xs) ∧ Upd [] w w' := by
  obtain ⟨p, c, rfl⟩ := h.form
  obtain ⟨i0, hi, hz0, hz1, hz2⟩ := info_parts Tryd.infoInt
  have HI := Lib.hid hi
  have HZ0 := Lib.hid hz0
  have HZ1 := Lib.hid hz1
  have HZ2 := Lib.hid hz2
  clear hi hz0 hz1 hz2
  go_enter Tryd.func34, Tryd.ntmps34
  go_wp2_with fail
  go_loopw [3, 4] (fun u i wr => ∃ k : Nat, k ≤ xs.length ∧ i = .int .i64 k ∧ OwnI wr w.heap.size 3 u (sortL (xs.take k)) ∧ Upd [] w wr) (fun _ i _ => xs.length - (intOf i).toNat)
  case atStart => exact ⟨0, by omega, rfl, OwnI.nil _ _ _, Upd.refl _ _⟩
  case round =>
    obtain ⟨k, hk, rfl, hout, hU⟩ := hrel
    by_cases hlt : k < xs.length
    · obtain ⟨rfl, h2⟩ := sints_nth _ _ _ _ _ h k hlt
      have hx := hU.cell h2 (by simp)
      have HT := Lib.hid (sortL_take xs k hlt)
      have hlen : (sortL (xs.take k)).length ≤ k := Nat.le_trans (sortL_len _) (by simp; omega)
      generalize xs.getD k 0 = x at hx HT h2
      generalize sortL (xs.take k) = out at hout HT hlen
      obtain ⟨wo, rfl⟩ : ∃ wo : World, wo = wr := ⟨_, rfl⟩
      obtain ⟨po, co, rfl, hpo⟩ : ∃ po co, u3 = .slice po out.length co ∧ (∀ j, j < out.length → ∃ g, po = some ⟨g, 0, none⟩ ∧ wo.cell? ⟨g, j, none⟩ = some (.int .i64 (out.getD j 0))) := by
        rcases hout.form with ⟨h1, h2⟩ | ⟨g, c, h1, _, _, _, h5⟩
        · exact ⟨none, 0, by rw [h1, h2]; rfl, by rw [h2]; simp⟩
        · exact ⟨_, _, h1, fun j hj => ⟨g, rfl, h5 j hj⟩⟩
      have HPO := Lib.hid hpo
      have HO := Lib.hid hout
      have H2 := Lib.hid h2
      clear hout hpo h2
      have hN := lessN_le out x
      go_upto_block 2 with fail
      go_cut [5] (fun s wx => s = .int .i64 (lessN out x) ∧ Upd [] wo wx)
      case first =>
        go_wp2_with fail
        go_loopw [5] (fun q wr => ∃ j : Nat, j ≤ lessN out x ∧ q = .int .i64 j ∧ Upd [] wo wr) (fun q _ => lessN out x + 1 - (intOf q).toNat)
        case atStart => exact ⟨0, by omega, rfl, Upd.refl _ _⟩
        case round =>
          obtain ⟨j, hj, rfl, hU2⟩ := hrel
          have hx2 := hU2.cell hx (by simp)
          by_cases hjl : j < out.length
          · obtain ⟨g, rfl, h4⟩ := HPO.out j hjl
            have hy := hU2.cell h4 (by simp)
            have HL := Lib.hid (fun h => lessN_lt out x j h)
            have HG := Lib.hid (fun h : j = lessN out x => h ▸ lessN_at out x (h ▸ hjl))
            clear h4
            generalize hgy : out.getD j 0 = y at hy HL HG
            have HGY := Lib.hid hgy
            clear hgy
            have d0 : decide ((j : Int) < (out.length : Int)) = true := by simp; omega
            have d0' : (j : Int) < (out.length : Int) := by omega
            have d0'' : (k : Int) < (xs.length : Int) := by omega
            by_cases hyx : y < x
            · have hjs : j < lessN out x := by
                rcases Nat.lt_or_ge j (lessN out x) with h | h
                · exact h
                · have := HG.out (by omega); omega
              have hyb : decide (y < x) = true := by simpa using hyx
              go_wp2_with fail
              go_quiet (fail)
              go_wp2_with fail
              go_roundw
              case rel => exact ⟨j + 1, by omega, by go_num, hU2.drewN _⟩
              case measure => simp [intOf]; omega
            · have hje : j = lessN out x := by
                rcases Nat.lt_or_ge j (lessN out x) with h | h
                · exact absurd (HL.out h) hyx
                · omega
              have hyb : decide (y < x) = false := by simpa using hyx
              have HJE := Lib.hid hje
              clear hje
              go_wp2_with fail
              go_quiet (fail)
              go_wp2_with fail
              go_meet
              exact ⟨by rw [HJE.out], hU2.drewN _⟩
          · have hje : j = lessN out x := by omega
            have HJE := Lib.hid hje
            have d0 : decide ((j : Int) < (out.length : Int)) = false := by simp; omega
            clear hje
            go_wp2_with fail
            go_quiet (fail)
            go_wp2_with fail
            go_meet
            exact ⟨by rw [HJE.out], hU2.drewN _⟩
      case rest =>
        obtain ⟨rfl, hU2⟩ := hcut
        have hx2 := hU2.cell hx (by simp)
        clear hx
        by_cases heq : out[lessN out x]? = some x
        · have hql : lessN out x < out.length := (List.getElem?_eq_some_iff.1 heq).1
          have HE := Lib.hid (show insL out x = out by unfold insL; rw [if_pos heq])
          obtain ⟨g, rfl, h4⟩ := HPO.out _ hql
          have hy := hU2.cell h4 (by simp)
          have hgd : out.getD (lessN out x) 0 = x := by rw [List.getD_eq_getElem?_getD, heq]; rfl
          rw [hgd] at hy
          clear heq hgd h4
          generalize lessN out x = q at *
          have d0 : decide ((q : Int) < (out.length : Int)) = true := by simp; omega
          have d0' : (q : Int) < (out.length : Int) := by omega
          have d0'' : (k : Int) < (xs.length : Int) := by omega
          go_wp2_with fail
          go_quiet (fail)
          go_wp2_with fail
          go_roundw
          case rel =>
            refine ⟨k + 1, by omega, by go_num, ?_, (hU.trans hU2).drewN _⟩
            rw [HT.out, HE.out]
            exact HO.out.upd (hU2.drewN _) (by simp)
          case measure => simp [intOf]; omega
        · have HE := Lib.hid (show insL out x = out.take (lessN out x) ++ [x] ++ out.drop (lessN out x) by unfold insL; rw [if_neg heq])
          have hne : ∀ hql : lessN out x < out.length, out.getD (lessN out x) 0 ≠ x := fun hql e => heq (by
            rw [List.getD_eq_getElem?_getD] at e
            rw [List.getElem?_eq_getElem hql] at e ⊢
            simpa using e)
          have HNE := Lib.hid hne
          clear heq hne
          generalize lessN out x = q at *
          go_upto_region 8 with fail
          go_cut [44] (fun s wx => s = .bool false ∧ Upd [] wc wx)
          case first =>
            by_cases hql : q < out.length
            · obtain ⟨g, rfl, h4⟩ := HPO.out _ hql
              have hy := hU2.cell h4 (by simp)
              have hnn := HNE.out hql
              clear h4
              generalize out.getD q 0 = y at hy hnn
              have d0 : decide ((q : Int) < (out.length : Int)) = true := by simp; omega
              have d0' : (q : Int) < (out.length : Int) := by omega
              have d0'' : (k : Int) < (xs.length : Int) := by omega
              have d1 : (y == x) = false := by rw [beq_eq_false_iff_ne]; exact hnn
              clear hnn
              go_quiet (fail)
              go_wp2_with fail
              go_meet
              exact ⟨rfl, (Upd.refl _ _).drewN _⟩
            · have d0 : decide ((q : Int) < (out.length : Int)) = false := by simp; omega
              go_quiet (fail)
              go_wp2_with fail
              go_meet
              exact ⟨rfl, (Upd.refl _ _).drewN _⟩
          case rest =>
            obtain ⟨rfl, hU3⟩ := hcut
            have hU4 := hU2.trans hU3
            have hU5 := hU.trans hU4
            have hO := HO.out.upd hU4 (by simp)
            have H2X := Lib.hid (hU5.cell H2.out (by simp))
            clear hx2 hU2 hU3 hU
            obtain ⟨w3, rfl⟩ : ∃ w3 : World, w3 = wc := ⟨_, rfl⟩
            have HMK := Lib.hid (fun w => make_ints w (out.length + 1) ((out.length : Int) + 1) (by omega) (by omega))
            obtain ⟨po2, co2, hs1, hs2, hr1, hr2⟩ := parts hO q hN
            have HS2 := Lib.hid hs2
            have HR1 := Lib.hid hr1
            have HR2 := Lib.hid hr2
            have hmk := HMK.out
            clear hs2 hr1 hr2
            have hqo : q ≤ out.length := hN
            have hw3 := hU5.size
            go_wp2_with fail
            have hwr : IntKind.i64.wrap ((out.length : Int) + 1) = (out.length : Int) + 1 := IntWalk.i64_in _ (by omega)
            go_region_law (refine step_append_src rfl (.tmp 48) (.tmp 51) 45 rfl w3.heap.size 3 i0 (.int .i64 0) 1 8 Tryd.underlying45 HI.out HZ0.out HZ1.out HZ2.out rfl (by decide) (.slice (some ⟨w3.heap.size, 0, none⟩) 0 (out.length + 1)) 0 [] rfl ((made_row w3 w3.heap.size (out.length + 1) (Nat.le_refl _) (by omega)).drew) (.slice po q co) q ((out.take q).map (Value.int .i64)) rfl (HR1.out _ (((Upd.refl [] w3).alloc _).drew)) (by simp; omega) (oneI _) (by unfold maxLen; omega) (by omega) (by simp) ?_; intro v1 w4 hown1 hgr1 _)
            have hu4 : Upd [] w3 w4 := (((Upd.refl [] w3).alloc _).drew).grown hgr1 (fun z hz => Or.inr (by cases hz; exact Nat.le_refl _))
            have HW4 := Lib.hid hown1
            have hx4 := hu4.cell H2X.out (by simp)
            have hs4 := hu4.size
            clear hown1 hgr1 hwr hmk hs1
            go_wp2_with (at_builtin; refine stop_here ?_)
            refine Hid.mk ?_
            refine (wpList_append_src rfl (.tmp 53) (.tmp 58) 45 rfl w3.heap.size 3 i0 (.int .i64 0) 1 8 Tryd.underlying45 HI.out HZ0.out HZ1.out HZ2.out rfl (by decide) v1 (0 + q) ([] ++ (out.take q).map (Value.int .i64)) rfl (HW4.out.alloc _) (.slice (some ⟨w4.heap.size, 0, none⟩) 1 1) 1 [.int .i64 x] rfl (.inr ⟨_, _, rfl, cell_one_new _ _ _⟩) rfl (by simp [Value.oneCell']) (by unfold maxLen; omega) (by omega) (by simp; omega) ?_)
            intro v2 w5 hown2 hgr2 _
            have hu5 : Upd [] w3 w5 := (hu4.alloc _).grown hgr2 (fun z hz => Or.inr ((HW4.out.lt z hz).1))
            have HW5 := Lib.hid hown2
            have hs2 := HS2.out
            clear hown2 hgr2 hx4
            go_wp2_with (at_builtin; refine stop_here ?_)
            refine Hid.mk ?_
            refine (wpList_append_src rfl (.tmp 60) (.tmp 63) 45 rfl w3.heap.size 3 i0 (.int .i64 0) 1 8 Tryd.underlying45 HI.out HZ0.out HZ1.out HZ2.out rfl (by decide) v2 (0 + q + 1) _ rfl HW5.out (.slice po2 (out.length - q) co2) (out.length - q) ((out.drop q).map (Value.int .i64)) rfl (HR2.out _ hu5) (by simp) (oneI _) (by unfold maxLen; omega) (by omega) (by have := hu5.size; omega) ?_)
            intro v3 w6 hown3 hgr3 _
            have hu6 : Upd [] w3 w6 := hu5.grown hgr3 (fun z hz => Or.inr ((HW5.out.lt z hz).1))
            have HW6 := Lib.hid hown3
            clear hown3 hgr3 hs2
            go_wp2_with fail
            go_roundw
            case rel =>
              refine ⟨k + 1, by omega, by go_num, ?_, hU5.trans hu6⟩
              rw [HT.out, HE.out]
              have h := row_base HW6.out hw3
              unfold OwnI
              have e1 : 0 + q + 1 + (out.length - q) = (out.take q ++ [x] ++ out.drop q).length := by simp; omega
              rw [e1] at h
              simpa using h
            case measure => simp [intOf]; omega
    · obtain rfl : k = xs.length := by omega
      rw [List.take_length] at hout
      go_wp2_with fail
      go_ret
      exact ⟨_, rfl, hout, hU⟩

end Go.Proofs.YtjndigfmemdmjaaDoor
