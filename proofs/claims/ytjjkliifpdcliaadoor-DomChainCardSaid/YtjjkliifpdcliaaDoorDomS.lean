/- dom.settle's closure: of two places, who stands above both. dom.settle: who stands right above each place. -/
import Derived.Test.YtjjkliifpdcliaaDoorRows
import Derived.Test.YtjjkliifpdcliaaDoorDomPl
import Derived.Test.YtjjkliifpdcliaaDoorLists
import Derived.Deep.QuietTactic
import Derived.BigQuiet
import Derived.StillTailTactics
import Derived.Test.YtjjkliifpdcliaaDoorPreds
/-! dom.settle's closure: of two places, who stands above both. -/
namespace Go.Proofs.YtjjkliifpdcliaaDoor
open Go.RowKit

theorem atvD_in {o : List Nat} {i : Nat} (h : i ∈ o) : atv o i = (o.idxOf i : Int) := if_pos h

/-- Of two rows of a tree: the lower one's way up goes on. -/
theorem meet_up {R : Nat → Prop} {pos : Nat → Nat} {f : Nat → Nat} {Q : Nat → Prop} (t : Tr R pos f Q) {a b : Nat} (hb : Q b) (ha : Q a) (hl : pos b < pos a) (h0 : a ≠ 0) (n : Nat) : (Anc f n a ∧ Anc f n b) ↔ (Anc f n (f a) ∧ Anc f n b) := by
  constructor
  · rintro ⟨h1, h2⟩
    have := h2.le t hb
    exact ⟨(h1.of_ne (by rintro rfl; omega)).2, h2⟩
  · rintro ⟨h1, h2⟩
    exact ⟨.up a h0 h1, h2⟩

set_option maxRecDepth 100000 in
set_option maxHeartbeats 2000000 in
theorem meetD_any (c : List (List Nat)) (hcl : Clean c) (h0 : c ≠ []) (ids : List Int) (hw : WfI c.length ids) (ht : Tr (Rd c) (posn c) (fOf ids) (qOf ids))
    (tb ib ab bx ax nn cn na ca : Nat) (a b : Nat) (ha : qOf ids a) (hb : qOf ids b) (w : World)
    (hax : w.cell? ⟨ax, 0, none⟩ = some (.slice (some ⟨ab, 0, none⟩) na ca)) (htx : w.cell? ⟨bx, 0, none⟩ = some (.pointer (some ⟨tb, 0, none⟩)))
    (hti : w.cell? ⟨tb, 1, none⟩ = some (.slice (some ⟨ib, 0, none⟩) nn cn)) (hna : na = c.length) (hnn : nn = c.length)
    (hat : ∀ v, v < c.length → w.cell? ⟨ab, v, none⟩ = some (.int .i64 (atv (rpo c) v))) (hid : w.heap[ib]? = some (.cells (icells ids) 3)) :
    Calls Tryd.prog 37 #[.int .i64 (a : Int), .int .i64 (b : Int), .pointer (some ⟨ax, 0, none⟩), .pointer (some ⟨bx, 0, none⟩)] w fun e w' => ∃ r : Nat, e = .returned (.int .i64 (r : Int)) ∧ qOf ids r ∧ (∀ n, Anc (fOf ids) n r ↔ Anc (fOf ids) n a ∧ Anc (fOf ids) n b) ∧ Upd [] w w' := by
  obtain ⟨par, hg⟩ := dfs_dg hcl h0
  subst hna
  subst hnn
  have HW := Lib.hid hw
  have HT := Lib.hid ht
  have HAT := Lib.hid hat
  have HID := Lib.hid hid
  have HAX := Lib.hid hax
  have HTX := Lib.hid htx
  have HTI := Lib.hid hti
  have HA := Lib.hid ha
  have HB := Lib.hid hb
  have HG := Lib.hid hg
  clear hw ht hat hid hax htx hti ha hb hg
  go_enter Tryd.func37, Tryd.ntmps37
  go_wp2_with fail
  go_loopw [0, 1] (fun av bv wr => ∃ x y : Nat, av = .int .i64 (x : Int) ∧ bv = .int .i64 (y : Int) ∧ Hid (qOf ids x) ∧ Hid (qOf ids y) ∧ Hid (∀ n, (Anc (fOf ids) n a ∧ Anc (fOf ids) n b) ↔ (Anc (fOf ids) n x ∧ Anc (fOf ids) n y)) ∧ Hid (Upd [] w wr)) (fun av bv _ => posn c (intOf av).toNat + posn c (intOf bv).toNat)
  case atStart => exact ⟨a, b, rfl, rfl, HA, HB, fun n => Iff.rfl, Upd.refl _ _⟩
  case round =>
    obtain ⟨x, y, rfl, rfl, HX, HY, HXY, HU⟩ := hrel
    obtain ⟨wo, rfl⟩ : ∃ wo : World, wo = wr := ⟨_, rfl⟩
    have hax := HU.out.cell HAX.out (by simp)
    have htx := HU.out.cell HTX.out (by simp)
    have hti := HU.out.cell HTI.out (by simp)
    obtain ⟨vx1, vx2, vx3⟩ := HW.out.val HX.out
    obtain ⟨vy1, vy2, vy3⟩ := HW.out.val HY.out
    have hcx := HU.out.cell (HAT.out x vx3) (by simp)
    have hcy := HU.out.cell (HAT.out y vy3) (by simp)
    have hxR := HT.out.sub x HX.out
    have hyR := HT.out.sub y HY.out
    rw [atvD_in hxR] at hcx
    rw [atvD_in hyR] at hcy
    have hlen := HW.out.len
    have hib := HU.out.heap HID.out (by simp)
    have hix : wo.cell? ⟨ib, x, none⟩ = some (.int .i64 (fOf ids x : Int)) := by
      rw [cell_of hib, icells_get ids x (by omega), getD_dflt 0 (-1) (by omega), vx1]
    have hiy : wo.cell? ⟨ib, y, none⟩ = some (.int .i64 (fOf ids y : Int)) := by
      rw [cell_of hib, icells_get ids y (by omega), getD_dflt 0 (-1) (by omega), vy1]
    have HIX := Lib.hid hix
    have HIY := Lib.hid hiy
    have HRX := Lib.hid hxR
    have HRY := Lib.hid hyR
    have HV1 := Lib.hid vx2
    have HV2 := Lib.hid vy2
    clear vx1 vy1 hib hix hiy hxR hyR hlen vx2 vy2
    by_cases e : x = y
    · subst e
      have HU2 := HU
      clear HU hcx hcy hax htx hti
      go_wp2_with fail
      go_ret
      refine ⟨x, rfl, HX.out, fun n => ?_, HU2.out⟩
      rw [HXY.out n]
      exact ⟨fun h => ⟨h, h⟩, fun h => h.1⟩
    · have hne : ((x : Int) == (y : Int)) = false := by simpa using fun h => e (by omega)
      have hne' : ((x : Int) != (y : Int)) = true := by simpa using fun h => e (by omega)
      have HPX : Hid ((rpo c).idxOf x = posn c x) := (rfl : _ = _)
      have HPY : Hid ((rpo c).idxOf y = posn c y) := (rfl : _ = _)
      rw [HPX.out] at hcx
      rw [HPY.out] at hcy
      have HNE : Hid (posn c x ≠ posn c y) := fun h => e (HG.out.inj x y HRX.out HRY.out h)
      by_cases hl : posn c y < posn c x
      · have d0 : decide (posn c y < posn c x) = true := decide_eq_true hl
        have d1 : decide ((posn c y : Int) < (posn c x : Int)) = true := decide_eq_true (by omega)
        have d2 : decide ((posn c x : Int) > (posn c y : Int)) = true := decide_eq_true (by omega)
        have hx0 : x ≠ 0 := by rintro rfl; rw [HG.out.p0] at hl; omega
        have HX0 := Lib.hid hx0
        have HL := Lib.hid hl
        have hix := HIX.out
        clear e hl
        go_wp2_with fail
        go_quiet (fail)
        go_wp2_with fail
        go_roundw
        case rel =>
          refine ⟨fOf ids x, y, rfl, rfl, HT.out.up x HX.out HX0.out, HY, ?_, HU.out.drewN _⟩
          intro n
          exact (HXY.out n).trans (meet_up HT.out HY.out HX.out HL.out HX0.out n)
        case measure =>
          have := HT.out.lt x HX.out HX0.out
          simp only [intOf, Int.toNat_natCast]
          omega
      · have d0 : decide (posn c y < posn c x) = false := decide_eq_false hl
        have d1 : decide ((posn c y : Int) < (posn c x : Int)) = false := decide_eq_false (by omega)
        have d2 : decide ((posn c x : Int) > (posn c y : Int)) = false := decide_eq_false (by omega)
        have hl2 : posn c x < posn c y := by have := HNE.out; omega
        have hy0 : y ≠ 0 := by rintro rfl; rw [HG.out.p0] at hl2; omega
        have HY0 := Lib.hid hy0
        have HL := Lib.hid hl2
        have hiy := HIY.out
        clear e hl hl2
        go_wp2_with fail
        go_quiet (fail)
        go_wp2_with fail
        go_roundw
        case rel =>
          refine ⟨x, fOf ids y, rfl, rfl, HX, HT.out.up y HY.out HY0.out, ?_, HU.out.drewN _⟩
          intro n
          refine (HXY.out n).trans ?_
          have := meet_up HT.out HX.out HY.out HL.out HY0.out n
          exact ⟨fun h => (this.1 h.symm).symm, fun h => (this.2 h.symm).symm⟩
        case measure =>
          have := HT.out.lt y HY.out HY0.out
          simp only [intOf, Int.toNat_natCast]
          omega

end Go.Proofs.YtjjkliifpdcliaaDoor

/-! dom.settle: who stands right above each place. -/
namespace Go.Proofs.YtjjkliifpdcliaaDoor
open Go.RowKit

/-- A block of integers, read. -/
def rdI (w : World) (b : Nat) : List Int := match w.heap[b]? with
  | some (.cells cs _ _) => cs.toList.map intOf
  | _ => []
theorem rdI_of {w : World} {b : Nat} {xs : List Int} {t : TypeId} {f : Nat × Nat} (h : w.heap[b]? = some (.cells (icells xs) t f)) : rdI w b = xs := by
  unfold rdI
  rw [h]
  simp [icells, intOf, Function.comp_def]
def chM (v : Value) (n : Nat) : Nat := match v with
  | .bool true => n + 1
  | _ => 0

/-- Rows as they are read, none of them in block b. -/
def RowsB (w : World) (gb b n : Nat) (g : List (List Int)) : Prop := ∀ v, v < n → ∃ p cc k, w.cell? ⟨gb, v, none⟩ = some (.slice p (g.getD v []).length cc) ∧ IntsV w (.slice p (g.getD v []).length cc) k (g.getD v []) ∧ (g.getD v [] = [] ∨ k ≠ b)
theorem RowsB.upd {w w' : World} {gb b n : Nat} {g : List (List Int)} (h : RowsB w gb b n g) (hu : Upd [b] w w') (hg : gb ≠ b) : RowsB w' gb b n g := by
  intro v hv
  obtain ⟨p, cc, k, h1, h2, h3⟩ := h v hv
  exact ⟨p, cc, k, hu.cell h1 (by simpa using hg), h2.upd hu (h3.imp id (fun h => by simpa using h)), h3⟩

set_option maxRecDepth 100000 in
set_option maxHeartbeats 4000000 in
theorem settle_any (c : List (List Nat)) (hcl : Clean c) (h0 : c ≠ []) (hn : c.length ≤ 2000) (tb gb ib ab ob cp cn ca co : Nat) (w : World)
    (ht0 : w.cell? ⟨tb, 0, none⟩ = some (.slice (some ⟨gb, 0, none⟩) c.length cp)) (ht1 : w.cell? ⟨tb, 1, none⟩ = some (.slice (some ⟨ib, 0, none⟩) c.length cn))
    (hpr : RowsB w gb ib c.length (intsL (predsL c))) (hor : ∀ k, k < (rpo c).length → w.cell? ⟨ob, k, none⟩ = some (.int .i64 ((rpo c).getD k 0 : Nat))) (hco : (rpo c).length ≤ co)
    (hat : ∀ v, v < c.length → w.cell? ⟨ab, v, none⟩ = some (.int .i64 (atv (rpo c) v))) (hid : w.heap[ib]? = some (.cells (icells (List.replicate c.length (-1))) 3))
    (n1 : tb ≠ ib) (n2 : gb ≠ ib) (n3 : ob ≠ ib) (n4 : ab ≠ ib) :
    Calls Tryd.prog 26 #[.pointer (some ⟨tb, 0, none⟩), .slice (some ⟨ob, 0, none⟩) (rpo c).length co, .slice (some ⟨ab, 0, none⟩) c.length ca] w fun e w' => ∃ ids, e = .returned (.tuple #[]) ∧ DomF c ids ∧ w'.heap[ib]? = some (.cells (icells ids) 3) ∧ Upd [ib] w w' := by
  obtain ⟨par, hg⟩ := dfs_dg hcl h0
  obtain ⟨m1, m2, m3, m4, m5⟩ := rpo_facts hcl h0
  have hl : 0 < c.length := by omega
  have HG := Lib.hid hg
  have HM5 := Lib.hid m5
  have hibl := lt_of_heap hid
  -- the two new variables
  obtain ⟨W2, hW2⟩ : ∃ W2, (w.alloc (.cells #[.pointer (some ⟨tb, 0, none⟩)] 25)).alloc (.cells #[.slice (some ⟨ab, 0, none⟩) c.length ca] 27) = W2 := ⟨_, rfl⟩
  have hu2 : Upd [] w W2 := by rw [← hW2]; exact ((Upd.refl [] w).alloc _).alloc _
  have hbt : W2.cell? ⟨w.heap.size, 0, none⟩ = some (.pointer (some ⟨tb, 0, none⟩)) := by
    rw [← hW2]
    refine ((Upd.refl [] _).alloc _).cell ?_ (by simp)
    exact cell_of (heap_alloc_new w _) 0
  have hba : W2.cell? ⟨w.heap.size + 1, 0, none⟩ = some (.slice (some ⟨ab, 0, none⟩) c.length ca) := by
    rw [← hW2]
    have e : w.heap.size + 1 = (w.alloc (.cells #[.pointer (some ⟨tb, 0, none⟩)] 25)).heap.size := by simp
    rw [e]
    exact (cell_of (heap_alloc_new _ _) 0).trans rfl
  have hsz2 : W2.heap.size = w.heap.size + 2 := by rw [← hW2]; simp
  have hib2 := hu2.heap hid (by simp)
  have hu3 : Upd [ib] W2 (W2.setCell ⟨ib, 0, none⟩ (.int .i64 0)) := (Upd.refl _ _).setCell (.inl (by simp)) _
  have hib3 : (W2.setCell ⟨ib, 0, none⟩ (.int .i64 0)).heap[ib]? = some (.cells (icells ((List.replicate c.length (-1)).set 0 0)) 3) := by
    rw [heap_setCell hib2, icells_set]
  have hu03 : Upd [ib] w (W2.setCell ⟨ib, 0, none⟩ (.int .i64 0)) := (hu2.mono (by simp)).trans hu3
  have HU03 := Lib.hid hu03
  have HIB3 := Lib.hid hib3
  have hbt3 := hu3.cell hbt (by simp; omega)
  have hba3 := hu3.cell hba (by simp; omega)
  have ht03 := hu03.cell ht0 (by simpa using n1)
  have ht13 := hu03.cell ht1 (by simpa using n1)
  have HPR := Lib.hid (hpr.upd hu03 n2)
  have HOR := Lib.hid (fun k hk => hu03.cell (hor k hk) (by simpa using n3))
  have HAT := Lib.hid (fun v hv => hu03.cell (hat v hv) (by simpa using n4))
  have hti2 := hu2.cell ht1 (by simp)
  have hc2 : W2.cell? ⟨ib, 0, none⟩ = some (.int .i64 (-1)) := by
    rw [cell_of hib2, icells_get _ 0 (by simp; omega)]
    simp [List.getD_eq_getElem?_getD, hl]
  have hf2 := froz_of hib2 0
  have HW2 := Lib.hid hW2
  have HB3 := Lib.hid (Betw.start hcl h0)
  clear hpr hor hat hid hu2 hu3 hu03 hib2 hib3 hba m2 m5 hg ht0 ht1
  go_enter Tryd.func26, Tryd.ntmps26
  go_wp2_with fail
  clear hbt hti2 hc2 hf2
  have hcut : ∃ off, (off = 1 ∨ (rpo c).length = 1) ∧ ∀ w', (Instr.slice 27 (.slice (some ⟨ob, 0, none⟩) (rpo c).length co) (some (.int .i64 1)) none none).run Tryd.prog w' = .ok (.slice (some ⟨ob, off, none⟩) ((rpo c).length - 1) (co - 1)) w' := by
    refine ⟨if co = 1 then 0 else 1, ?_, fun w' => ?_⟩
    · split
      · right; omega
      · exact .inl rfl
    · exact cut_lo w' ob (rpo c).length co 1 (by omega)
  obtain ⟨off, hoff, hcut⟩ := hcut
  have HOFF := Lib.hid hoff
  have HLEN : Hid (0 < (rpo c).length ∧ (rpo c).length ≤ c.length) := ⟨m3, m4⟩
  obtain ⟨W3, hW3⟩ : ∃ W3, W2.setCell ⟨ib, 0, none⟩ (.int .i64 0) = W3 := ⟨_, rfl⟩
  rw [hW3] at HU03 HIB3 hbt3 hba3 ht03 ht13 HPR HOR HAT ⊢
  have HBT := Lib.hid hbt3
  have HBA := Lib.hid hba3
  have HT0 := Lib.hid ht03
  have HT1 := Lib.hid ht13
  have HSZ : Hid (w.heap.size + 2 ≤ W3.heap.size) := by
    show _ ≤ _
    rw [← hW3]
    simp [World.setCell]
    omega
  clear hW3 hW2 HW2 hbt3 hba3 ht03 ht13 hoff hsz2
  obtain ⟨L, hL⟩ : ∃ L, (rpo c).length = L := ⟨_, rfl⟩
  have HL := Lib.hid hL
  rw [hL] at m3 m4 hcut hco ⊢
  clear hL
  have hne : w.heap.size ≠ ib := by omega
  have hne2 : w.heap.size + 1 ≠ ib := by omega
  go_loopw [7] (fun cv wr => ∃ (ids : List Int) (ch : Bool), cv = .bool ch ∧ Hid (Betw c ids) ∧ Hid (ch = false → DomF c (ids.set 0 (-1))) ∧ Hid (wr.heap[ib]? = some (.cells (icells ids) 3)) ∧ Hid (Upd [ib] W3 wr)) (fun cv wr => chM cv (mu c (rdI wr ib)))
  case atStart => exact ⟨_, true, rfl, HB3.out, fun h => (by cases h), HIB3.out, Upd.refl _ _⟩
  case round =>
    obtain ⟨ids0, ch0, rfl, HB0, HF0, HI0, HU0⟩ := hrel
    obtain ⟨w0, rfl⟩ : ∃ w0 : World, w0 = wr := ⟨_, rfl⟩
    have hmu0 : rdI w0 ib = ids0 := rdI_of HI0.out
    have HMU0 := Lib.hid hmu0
    clear hmu0
    have hbt := HU0.out.cell HBT.out (by simpa using hne)
    cases ch0 with
    | false =>
      have hti := HU0.out.cell HT1.out (by simpa using n1)
      have hi0 := HI0.out
      have hlen := HB0.out.wf.len
      have hz := HB0.out.z
      have hc0 : w0.cell? ⟨ib, 0, none⟩ = some (.int .i64 0) := by
        rw [cell_of hi0, icells_get ids0 0 (by omega), getD_dflt 0 (-1) (by omega), hz]
      have hf0 := froz_of hi0 0
      have hend := heap_setCell hi0 0 (.int .i64 (-1))
      rw [icells_set] at hend
      have HEND := Lib.hid hend
      clear hi0 hz hlen hend
      go_wp2_with fail
      go_end0
      exact ⟨rfl, _, HF0.out trivial, HEND.out, HU03.out.trans (HU0.out.setCell (.inl (by simp)) _)⟩
    | true =>
      clear hbt
      go_wp2_with fail
      go_loopw [7, 23] (fun cv jv wr => ∃ (j : Nat) (ids : List Int) (ch : Bool), cv = .bool ch ∧ jv = .int .i64 (j : Int) ∧ j ≤ L - 1 ∧ Hid (PassS c ids0 ids (j + 1) ch) ∧ Hid (wr.heap[ib]? = some (.cells (icells ids) 3)) ∧ Hid (Upd [ib] W3 wr)) (fun _ jv _ => L - 1 - (intOf jv).toNat)
      case atStart => exact ⟨0, ids0, false, rfl, rfl, by omega, PassS.start hcl h0 HB0.out, HI0.out, HU0.out⟩
      case round =>
        clear HI0 HU0 HF0
        obtain ⟨j, ids, ch, rfl, rfl, hj, HP, HI, HU⟩ := hrel
        obtain ⟨w1, rfl⟩ : ∃ w1 : World, w1 = wr := ⟨_, rfl⟩
        by_cases hlt : j < L - 1
        · have hoff : off = 1 := by
            rcases HOFF.out with h | h
            · exact h
            · rw [HL.out] at h; omega
          subst hoff
          have hxl : j + 1 < (rpo c).length := by rw [HL.out]; omega
          have hor := HU.out.cell (HOR.out (j + 1) hxl) (by simpa using n3)
          rw [Nat.add_comm j 1] at hor
          have hxm : (rpo c).getD (1 + j) 0 ∈ rpo c := by
            rw [Nat.add_comm 1 j, List.getD_eq_getElem?_getD, List.getElem?_eq_getElem hxl]
            exact List.getElem_mem hxl
          have hxn := HM5.out _ hxm
          have HNX := Lib.hid (fun u hu => HP.out.next hcl h0 (k := j + 1) (by omega) hxl (u := u) hu)
          rw [Nat.add_comm j 1] at HNX
          clear hxl hxm
          generalize (rpo c).getD (1 + j) 0 = x at hor hxn HNX
          have hbt := HU.out.cell HBT.out (by simpa using hne)
          have ht0 := HU.out.cell HT0.out (by simpa using n1)
          obtain ⟨rp, rc, rk, hrc, hri, hrb⟩ := HPR.out x hxn
          have hrc := HU.out.cell hrc (by simpa using n2)
          have HRI := Lib.hid (hri.upd HU.out (hrb.imp id (fun h => by simpa using h)))
          have hgl := intsL_get (predsL c) x
          rw [hgl] at hrc HRI
          rw [ints_len] at hrc
          have hpb : ((predsL c).getD x []).length ≤ c.length := predsL_bd c _ (by
            rw [List.getD_eq_getElem?_getD, List.getElem?_eq_getElem (by rw [predsL_len]; exact hxn)]
            exact List.getElem_mem _)
          have HPB := Lib.hid (fun p (hp : p ∈ (predsL c).getD x []) => (predsL_clean c x (by rw [predsL_len]; exact hxn)).2 p hp)
          rw [predsL_len] at HPB
          clear hri hrb hgl
          generalize (predsL c).getD x [] = pl at hrc HRI hpb HPB HNX
          go_wp2_with fail
          go_loopw [10, 35] (fun uv kv wr => ∃ (k : Nat) (u : Int), uv = .int .i64 u ∧ kv = .int .i64 (k : Int) ∧ k ≤ pl.length ∧ Hid (UpS ids (pl.take k) u) ∧ Hid (Upd [] w1 wr)) (fun _ kv _ => pl.length - (intOf kv).toNat)
          case atStart => exact ⟨0, -1, rfl, rfl, by omega, UpS.nil _, Upd.refl _ _⟩
          case round =>
            clear hor hbt ht0 hrc
            obtain ⟨k, u, rfl, rfl, hk, HUP, HV⟩ := hrel
            obtain ⟨wq, rfl⟩ : ∃ wq : World, wq = wr := ⟨_, rfl⟩
            have HUq := Lib.hid (HU.out.trans (HV.out.mono (by simp)))
            have hiq := HV.out.heap HI.out (by simp)
            have HIq := Lib.hid hiq
            have hlen := HP.out.wf.len
            have hbt := HUq.out.cell HBT.out (by simpa using hne)
            have ht1 := HUq.out.cell HT1.out (by simpa using n1)
            by_cases hkl : k < pl.length
            · obtain ⟨hrp, hpc⟩ := sints_nth rp rk rc (ints pl) wq (HRI.out.upd HV.out (Or.inr (by simp))) k (by rw [ints_len]; exact hkl)
              subst hrp
              rw [ints_get pl k hkl] at hpc
              have hpm : pl.getD k 0 ∈ pl := by
                rw [List.getD_eq_getElem?_getD, List.getElem?_eq_getElem hkl]
                exact List.getElem_mem hkl
              have hpn := HPB.out _ hpm
              have HTK : Hid (pl.take (k + 1) = pl.take k ++ [pl.getD k 0]) := by
                show _ = _
                rw [List.take_succ_eq_append_getElem hkl, List.getD_eq_getElem?_getD, List.getElem?_eq_getElem hkl]; rfl
              clear hpm
              generalize pl.getD k 0 = p at hpc hpn HTK
              have hat := HUq.out.cell (HAT.out p hpn) (by simpa using n4)
              have hba := HUq.out.cell HBA.out (by simpa using hne2)
              have hip : wq.cell? ⟨ib, p, none⟩ = some (.int .i64 (ids.getD p (-1))) := by
                rw [cell_of hiq, icells_get ids p (by omega), getD_dflt 0 (-1) (by omega)]
              clear hiq hlen
              by_cases hq : qOf ids p
              · have hpR : p ∈ rpo c := HP.out.mid.tr.sub p hq
                rw [atvD_in hpR] at hat
                have hqv := (HP.out.wf.val hq).1
                rw [hqv] at hip
                have e1 : (((rpo c).idxOf p : Int) == -1) = false := by simp
                have e2 : ((fOf ids p : Int) == -1) = false := by simp
                have HQ := Lib.hid hq
                clear hqv hpR hq
                by_cases hu : u = -1
                · subst hu
                  have HUP2 := Lib.hid (HUP.out.first HQ.out)
                  rw [← HTK.out] at HUP2
                  clear HUP
                  go_wp2_with fail
                  go_roundw
                  case rel => exact ⟨k + 1, _, rfl, by go_num, by omega, HUP2.out, HV.out⟩
                  case measure => simp [intOf]; omega
                · have e3 : (u == -1) = false := by simpa using hu
                  obtain ⟨m, hum⟩ : ∃ m : Nat, u = m ∧ qOf ids m := by
                    rcases HUP.out with ⟨h1, _⟩ | ⟨m, h1, h2, _⟩
                    · exact absurd h1 hu
                    · exact ⟨m, h1, h2⟩
                  obtain ⟨rfl, hqm⟩ := hum
                  have HMT := Lib.hid (meetD_any c hcl h0 ids HP.out.wf HP.out.mid.tr tb ib ab w.heap.size (w.heap.size + 1) c.length cn c.length ca m p hqm HQ.out wq hba hbt ht1 rfl rfl (fun v hv => HUq.out.cell (HAT.out v hv) (by simpa using n4)) HIq.out)
                  clear hqm hu
                  go_wp2_with fail
                  refine HMT.out.mono ?_
                  rintro e w' ⟨r, rfl, hr, hmeet, hu5⟩
                  have HUP2 := Lib.hid (HUP.out.meet HQ.out hr hmeet)
                  rw [← HTK.out] at HUP2
                  have HV2 := Lib.hid (HV.out.trans hu5)
                  clear HUP hr hmeet hu5 HMT hba hbt ht1 hat hip hpc
                  go_wp2_with fail
                  go_roundw
                  case rel => exact ⟨k + 1, _, rfl, by go_num, by omega, HUP2.out, HV2.out⟩
                  case measure => simp [intOf]; omega
              · rw [WfI.no hq] at hip
                have HUP2 := Lib.hid (HUP.out.skip hq)
                rw [← HTK.out] at HUP2
                clear HUP hq
                by_cases hpR : p ∈ rpo c
                · rw [atvD_in hpR] at hat
                  have e1 : (((rpo c).idxOf p : Int) == -1) = false := by simp
                  clear hpR
                  go_wp2_with fail
                  go_roundw
                  case rel => exact ⟨k + 1, _, rfl, by go_num, by omega, HUP2.out, HV.out⟩
                  case measure => simp [intOf]; omega
                · unfold atv at hat
                  rw [if_neg hpR] at hat
                  clear hpR
                  go_wp2_with fail
                  go_roundw
                  case rel => exact ⟨k + 1, _, rfl, by go_num, by omega, HUP2.out, HV.out⟩
                  case measure => simp [intOf]; omega
            · obtain rfl : k = pl.length := by omega
              have hup := HUP.out
              rw [List.take_length] at hup
              obtain ⟨m, rfl, hm, hA, hB⟩ := HNX.out u hup
              have HA := Lib.hid hA
              have HB := Lib.hid hB
              have hix : wq.cell? ⟨ib, x, none⟩ = some (.int .i64 (ids.getD x (-1))) := by
                rw [cell_of hiq, icells_get ids x (by omega), getD_dflt 0 (-1) (by omega)]
              have hfx := froz_of hiq x
              have hst := heap_setCell hiq x (.int .i64 (m : Int))
              rw [icells_set] at hst
              have HST := Lib.hid hst
              have hxl : x < ids.length := by omega
              clear hup hA hB hiq hst HUP
              by_cases e : (m : Int) = ids.getD x (-1)
              · have d : ((m : Int) != ids.getD x (-1)) = false := by simpa using e
                have HE := Lib.hid (HB.out e)
                clear e hlen
                generalize ids.getD x (-1) = ix at hix d
                go_wp2_with fail
                go_roundw
                case rel => exact ⟨j + 1, ids, ch, rfl, by go_num, by omega, by have := HE.out; rwa [Nat.add_comm 1 j] at this, HIq.out, HUq.out⟩
                case measure => simp [intOf]; omega
              · have d : ((m : Int) != ids.getD x (-1)) = true := by simpa using e
                have HE := Lib.hid (HA.out e)
                clear e hlen
                generalize ids.getD x (-1) = ix at hix d
                go_wp2_with fail
                go_roundw
                case rel => exact ⟨j + 1, _, true, rfl, by go_num, by omega, by have := HE.out; rwa [Nat.add_comm 1 j] at this, HST.out, HUq.out.setCell (.inl (by simp)) _⟩
                case measure => simp [intOf]; omega
        · obtain rfl : j = L - 1 := by omega
          have hpf := HP.out
          rw [show L - 1 + 1 = (rpo c).length by rw [HL.out]; omega] at hpf
          obtain ⟨hB, hF⟩ := hpf.fin hcl h0
          have HLT := Lib.hid hpf.lt
          have HB := Lib.hid hB
          have HF := Lib.hid hF
          clear hpf hB hF
          go_wp2_with fail
          go_roundw
          case rel => exact ⟨ids, ch, rfl, HB.out, HF.out, HI.out, HU.out⟩
          case measure =>
            have e1 : rdI w1 ib = ids := rdI_of HI.out
            rw [e1, HMU0.out]
            cases ch with
            | false => simp [chM]
            | true => have := HLT.out rfl; simp [chM]; omega

end Go.Proofs.YtjjkliifpdcliaaDoor
