/- slices.Clone of integers, beside XMet (XClone goes with XOwnNe). gc.Minor, gc.Major; the references of an object. gc.Verify: it answers true. -/
import Derived.Test.YtneeljhjfmcdoaaDoorOwnI
import Derived.Test.YtneeljhjfmcdoaaDoorMoveW
import Derived.Test.YtneeljhjfmcdoaaDoorObjsOf
import Derived.Test.YtneeljhjfmcdoaaDoorShelf
/-! slices.Clone of integers, beside XMet (XClone goes with XOwnNe). -/
namespace Go.Proofs.YtneeljhjfmcdoaaDoor
open Go.RowKit

/-- The form of a row of one's own. -/
theorem ownI_shape {w : World} {base : Nat} {e : TypeId} {v : Value} {xs : List Int} (h : OwnI w base e v xs) : ∃ p c, v = .slice p xs.length c := by
  rcases h.form with ⟨h1, h2⟩ | ⟨g, c, h1, _⟩
  · subst h2; exact ⟨none, 0, h1⟩
  · exact ⟨_, _, h1⟩

set_option maxRecDepth 100000 in
set_option maxHeartbeats 1000000 in
theorem clonei_any (v : Value) (b : Nat) (xs : List Int) (w : World) (h : IntsV w v b xs) (hn : xs.length ≤ 100000) :
    Calls Tryd.prog 65 #[v] w fun e w' => ∃ u, e = .returned u ∧ OwnI w' w.heap.size 3 u xs ∧ Upd [] w w' := by
  obtain ⟨i0, hi, hz0, hz1, hz2⟩ := info_parts Tryd.infoInt
  have HI := Lib.hid hi
  have HZ0 := Lib.hid hz0
  have HZ1 := Lib.hid hz1
  have HZ2 := Lib.hid hz2
  clear hi hz0 hz1 hz2
  rcases h.1 with ⟨rfl, rfl⟩ | ⟨c, rfl⟩
  · clear h
    have hq : ∀ W, (binOp BinOp.eql 22 (.slice none 0 0) (.slice none 0 0)).run Tryd.prog W = .ok (.bool true) W := fun _ => by kernel_rfl
    go_enter Tryd.func65, Tryd.ntmps65
    go_wp2_with fail
    go_ret
    exact ⟨_, rfl, OwnI.nil _ _ _, Upd.refl _ _⟩
  · have HX := Lib.hid h.2
    clear h
    have hq : ∀ W, (binOp BinOp.eql 22 (.slice (some ⟨b, 0, none⟩) xs.length c) (.slice none 0 0)).run Tryd.prog W = .ok (.bool false) W := fun _ => by kernel_rfl
    go_enter Tryd.func65, Tryd.ntmps65
    go_wp2_with (at_builtin; refine stop_here ?_)
    refine Hid.mk ?_
    have hrow : (w.alloc (.cells #[] 3)).ownsRow w.heap.size 3 1 (.slice (some ⟨w.heap.size, 0, none⟩) 0 0) 0 [] :=
      ⟨by simp, .inr ⟨w.heap.size, 0, #[], rfl, Nat.le_refl _, heap_alloc_new _ _, by omega, by simp [maxLen], by simp, by simp⟩⟩
    have hsrc : SrcV (w.alloc (.cells #[] 3)) (.slice (some ⟨b, 0, none⟩) xs.length c) xs.length (xs.map (Value.int .i64)) := by
      have h1 := src_row (w := w.alloc (.cells #[] 3)) (g := b) (xs := xs) (fun i hi => ((Upd.refl [] w).alloc _).cell (HX.out i hi) (by simp)) 0 xs.length c (by omega) 0 (.inl rfl)
      rwa [List.drop_zero, List.take_length] at h1
    refine (wpList_append_src rfl _ _ 22 rfl w.heap.size 3 i0 (.int .i64 0) 1 8 Tryd.underlying22 HI.out HZ0.out HZ1.out HZ2.out rfl (by decide) _ _ _ rfl hrow _ xs.length (xs.map (Value.int .i64)) rfl hsrc (by simp) (oneI _) (by unfold maxLen; omega) (by omega) (by simp) ?_)
    intro v' w6 hown hgr _
    have hu := ((Upd.refl [] w).alloc (.cells #[] 3)).grown hgr (fun q hq => .inr (by injection hq with hq; exact Nat.le_of_eq hq))
    rw [Nat.zero_add, List.nil_append] at hown
    have HO : Hid (OwnI w6 w.heap.size 3 v' xs) := hown
    have HU := Lib.hid hu
    obtain ⟨p2, c2, rfl⟩ := ownI_shape HO.out
    clear hown hgr hu hrow hsrc
    go_wp2_with fail
    go_ret
    exact ⟨_, rfl, HO.out, HU.out⟩

end Go.Proofs.YtneeljhjfmcdoaaDoor

/-! gc.Minor, gc.Major; the references of an object. -/
namespace Go.Proofs.YtneeljhjfmcdoaaDoor
open Go.RowKit

theorem major_any (L : HL) (cv mv : Value) (S : Hp) (p : Option Addr) (cap rb : Nat) (rs : List Int) (w : World) (h : HpAt w L cv mv S) (hI : S.Inv) (hlow : ∀ i ∈ L.all, i < w.heap.size) (hT : TzAt w) (hTL : ∀ i ∈ L.all, i ≠ 1) (hn : rs.length ≤ 100000)
    (hp : rs = [] ∨ p = some ⟨rb, 0, none⟩) (hr : ∀ i, i < rs.length → w.cell? ⟨rb, i, none⟩ = some (.int .i64 (rs.getD i 0))) (hrr : ∀ r ∈ rs, -9223372036854775808 ≤ r ∧ r ≤ 9223372036854775807) (hrb : rb ∉ [L.hb, L.wb, L.bw]) :
    Calls Tryd.prog 14 #[.pointer (some ⟨L.hb, 0, none⟩), .slice p rs.length cap] w fun e w' => ∃ v, e = .returned v ∧ MoveEnd L cv mv S true rs w v w' := by
  have HM := Lib.hid (hmove_any L cv mv S true p cap rb rs w h hI hlow hT hTL hn hp hr hrr hrb)
  clear h hI hlow hT hTL hp hr hrr hrb
  go_enter Tryd.func14, Tryd.ntmps14
  go_wp2_with fail
  refine HM.out.mono ?_
  rintro e w' ⟨v, rfl, hm⟩
  have HE := Lib.hid hm
  rcases hm with ⟨_, rfl, _⟩ | ⟨_, sc, M, bg, mb, mw, u, _, rfl, ho, _⟩
  · clear HM
    go_wp2_with fail
    go_ret2
    exact ⟨_, rfl, HE.out⟩
  · obtain ⟨p2, c2, rfl⟩ := ownI_shape ho
    rw [List.length_map] at HE
    clear HM ho
    go_wp2_with fail
    go_ret2
    exact ⟨_, rfl, HE.out⟩

theorem minor_any (L : HL) (cv mv : Value) (S : Hp) (p : Option Addr) (cap rb : Nat) (rs : List Int) (w : World) (h : HpAt w L cv mv S) (hI : S.Inv) (hlow : ∀ i ∈ L.all, i < w.heap.size) (hT : TzAt w) (hTL : ∀ i ∈ L.all, i ≠ 1) (hn : rs.length ≤ 100000)
    (hp : rs = [] ∨ p = some ⟨rb, 0, none⟩) (hr : ∀ i, i < rs.length → w.cell? ⟨rb, i, none⟩ = some (.int .i64 (rs.getD i 0))) (hrr : ∀ r ∈ rs, -9223372036854775808 ≤ r ∧ r ≤ 9223372036854775807) (hrb : rb ∉ [L.hb, L.wb, L.bw]) :
    Calls Tryd.prog 15 #[.pointer (some ⟨L.hb, 0, none⟩), .slice p rs.length cap] w fun e w' => ∃ v, e = .returned v ∧ MoveEnd L cv mv S false rs w v w' := by
  have HM := Lib.hid (hmove_any L cv mv S false p cap rb rs w h hI hlow hT hTL hn hp hr hrr hrb)
  clear h hI hlow hT hTL hp hr hrr hrb
  go_enter Tryd.func15, Tryd.ntmps15
  go_wp2_with fail
  refine HM.out.mono ?_
  rintro e w' ⟨v, rfl, hm⟩
  have HE := Lib.hid hm
  rcases hm with ⟨_, rfl, _⟩ | ⟨_, sc, M, bg, mb, mw, u, _, rfl, ho, _⟩
  · clear HM
    go_wp2_with fail
    go_ret2
    exact ⟨_, rfl, HE.out⟩
  · obtain ⟨p2, c2, rfl⟩ := ownI_shape ho
    rw [List.length_map] at HE
    clear HM ho
    go_wp2_with fail
    go_ret2
    exact ⟨_, rfl, HE.out⟩

/-- The references among an object's first n values. -/
def Hp.refsTo (S : Hp) (r : Int) : Nat → List Int
  | 0 => []
  | n + 1 => if S.refB r n = true then S.refsTo r n ++ [S.get r n] else S.refsTo r n
theorem refsTo_len (S : Hp) (r : Int) : ∀ n, (S.refsTo r n).length ≤ n
  | 0 => Nat.le_refl _
  | n + 1 => by
    have := refsTo_len S r n
    unfold Hp.refsTo
    split
    · rw [List.length_append, List.length_singleton]; omega
    · omega
theorem mem_refsTo {S : Hp} {r v : Int} : ∀ {n}, v ∈ S.refsTo r n → ∃ j, j < n ∧ S.refB r j = true ∧ v = S.get r j
  | 0, h => by cases h
  | n + 1, h => by
    unfold Hp.refsTo at h
    split at h
    · rename_i hb
      rcases List.mem_append.1 h with h | h
      · obtain ⟨j, h1, h2⟩ := mem_refsTo h
        exact ⟨j, by omega, h2⟩
      · exact ⟨n, by omega, hb, by simpa using h⟩
    · obtain ⟨j, h1, h2⟩ := mem_refsTo h
      exact ⟨j, by omega, h2⟩

set_option maxRecDepth 100000 in
set_option maxHeartbeats 4000000 in
theorem hrefs_any (L : HL) (cv mv : Value) (S : Hp) (r : Int) (w : World) (h : HpAt w L cv mv S) (hlow : ∀ i ∈ L.all, i < w.heap.size) (hr : S.is r = true) :
    Calls Tryd.prog 54 #[.pointer (some ⟨L.hb, 0, none⟩), .int .i64 r] w fun e w' => ∃ u, e = .returned u ∧ OwnI w' w.heap.size 3 u (S.refsTo r (S.num r).toNat) ∧ Upd [] w w' := by
  obtain ⟨i0, hi, hz0, hz1, hz2⟩ := info_parts Tryd.infoInt
  have HI := Lib.hid hi
  have HZ0 := Lib.hid hz0
  have HZ1 := Lib.hid hz1
  have HZ2 := Lib.hid hz2
  have hle := h.ok.le hr
  have hrl := h.ok.lt hr
  have hlA := h.ok.len
  have hn0 : 0 ≤ S.num r := unN_nonneg _
  obtain ⟨n, hn⟩ : ∃ n : Nat, S.num r = (n : Int) := ⟨(S.num r).toNat, by omega⟩
  have hn48 : n ≤ 1048576 := by have := hle.2.2.2.1; omega
  have hIS := Lib.hid (is_any L cv mv S r w h (by omega))
  have HN := Lib.hid hn
  have HR := Lib.hid hr
  have H := Lib.hid h
  have HLOW := Lib.hid hlow
  have HIS : Hid (Calls Tryd.prog 18 #[.pointer (some ⟨L.hb, 0, none⟩), .int .i64 r] w fun e w' => e = .returned (.tuple #[.int .i64 (S.cls r), .int .i64 (n : Int), .bool true]) ∧ w = w') := by
    have := hIS.out
    rw [hr, if_pos rfl, if_pos rfl, hn] at this
    exact this
  have hrb : r ≤ 9223372036854775807 := by omega
  rw [hn, Int.toNat_natCast]
  clear hi hz0 hz1 hz2 hle h hlow hr hIS hn hrl
  go_enter Tryd.func54, Tryd.ntmps54
  go_wp2_with fail
  refine HIS.out.mono ?_
  rintro e w0 ⟨rfl, rfl⟩
  go_wp2_with fail
  go_loopw [8, 20] (fun uv iv wr => ∃ i : Nat, i ≤ n ∧ iv = .int .i64 i ∧ Hid (OwnI wr w.heap.size 3 uv (S.refsTo r i)) ∧ Hid (Upd [] w wr)) (fun _ iv _ => n - (intOf iv).toNat)
  case atStart => exact ⟨0, by omega, rfl, OwnI.nil _ _ _, Upd.refl _ _⟩
  case round =>
    obtain ⟨i, hi, rfl, HO, HV⟩ := hrel
    obtain ⟨wo, rfl⟩ : ∃ wo : World, wo = wr := ⟨_, rfl⟩
    obtain ⟨p2, c2, rfl⟩ := ownI_shape HO.out
    have hli := refsTo_len S r i
    by_cases hlt : i < n
    · have e1 : decide ((i : Int) < (n : Int)) = true := decide_eq_true (by omega)
      have hp0 := H.out.upd0 HV.out
      have HP := Lib.hid hp0
      clear hp0
      have HRF := Lib.hid (ref_any L cv mv S r i wo HP.out hrb)
      have hs : S.refsTo r (i + 1) = if S.refB r i = true then S.refsTo r i ++ [S.get r i] else S.refsTo r i := rfl
      cases hrf : S.refB r i with
      | true =>
        rw [hrf] at HRF
        rw [hrf, if_pos rfl] at hs
        have HS := Lib.hid hs
        have hga := get_any L cv mv S r i wo HP.out hrb
        have hhv : S.hasV r i = true := by
          unfold Hp.hasV
          rw [HR.out, HN.out, Bool.true_and, decide_eq_true_eq]; omega
        unfold Hp.getV at hga
        rw [hhv, if_pos rfl] at hga
        have HG := Lib.hid hga
        clear hs hga hhv
        go_wp2_with fail
        refine HRF.out.mono ?_
        rintro e w1 ⟨rfl, rfl⟩
        go_wp2_with fail
        refine HG.out.mono ?_
        rintro e w1 ⟨rfl, rfl⟩
        go_wp2_with (at_builtin; refine stop_here ?_)
        refine Hid.mk ?_
        have hcn := cell_of (heap_alloc_new wo (.cells #[.int .i64 (S.get r i)] 3))
        refine (wpList_append_own _ rfl _ _ 22 rfl w.heap.size 3 i0 (.int .i64 0) 1 8 Tryd.underlying22 HI.out HZ0.out HZ1.out HZ2.out rfl (by decide) _ _ _ rfl (HO.out.alloc (.cells #[.int .i64 (S.get r i)] 3)) ⟨wo.heap.size, 0, none⟩ 1 1 [.int .i64 (S.get r i)] rfl rfl ?c1 ?c2 ?c3 ?c4 ?c5 ?c6)
        case c1 =>
          intro jj uu hjj
          rw [Addr.add_lit, Nat.zero_add, hcn]
          simpa using hjj
        case c2 => simp [Value.oneCell']
        case c3 => unfold maxLen; omega
        case c4 => omega
        case c5 => have := HV.out.size; simp; omega
        case c6 =>
          intro v' w6 hown hgr _
          have HU6 := Lib.hid ((HV.out.alloc (.cells #[.int .i64 (S.get r i)] 3)).grown hgr (fun q hq => .inr (HO.out.lt q hq).1))
          have hO6 := OwnI.snoc hown
          rw [← HS.out] at hO6
          have HO6 := Lib.hid hO6
          obtain ⟨g', cap', rfl⟩ := ownsRow_succ hown
          clear hown hgr hO6 hcn
          go_wp2_with fail
          go_roundw
          case rel => exact ⟨i + 1, by omega, by go_num, HO6, HU6⟩
          case measure => simp [intOf]; omega
      | false =>
        rw [hrf] at HRF
        rw [hrf, if_neg (by simp)] at hs
        have HO2 : Hid (OwnI wo w.heap.size 3 (.slice p2 (S.refsTo r i).length c2) (S.refsTo r (i + 1))) := by rw [hs]; exact HO
        clear hs
        go_wp2_with fail
        refine HRF.out.mono ?_
        rintro e w1 ⟨rfl, rfl⟩
        go_wp2_with fail
        go_roundw
        case rel => exact ⟨i + 1, by omega, by go_num, HO2, HV⟩
        case measure => simp [intOf]; omega
    · obtain rfl : i = n := by omega
      have e1 : decide ((i : Int) < (i : Int)) = false := decide_eq_false (by omega)
      go_wp2_with fail
      go_ret
      exact ⟨_, rfl, HO.out, HV.out⟩
end Go.Proofs.YtneeljhjfmcdoaaDoor

/-! gc.Verify: it answers true. -/
namespace Go.Proofs.YtneeljhjfmcdoaaDoor
open Go.RowKit

theorem getD_mem {α : Type} {l : List α} {i : Nat} (h : i < l.length) (d : α) : l.getD i d ∈ l := by
  rw [List.getD_eq_getElem?_getD, List.getElem?_eq_getElem h]
  exact List.getElem_mem h
theorem objs_is {S : Hp} {r : Int} (hr : r ∈ plus1 (blist S.bg)) : S.is r = true := by
  obtain ⟨x, hx, rfl⟩ := List.mem_map.1 hr
  have := (mem_blist _ _).1 hx
  unfold Hp.is
  rw [decide_eq_true (by omega), show ((x : Int) + 1 - 1).toNat = x by omega, this]
  rfl
/-- An object ends ahead of the next one. -/
theorem objs_end {S : Hp} (hS : S.Ok) {i j : Nat} (hij : i < j) (hj : j < (plus1 (blist S.bg)).length) : (plus1 (blist S.bg)).getD i 0 + 2 + S.num ((plus1 (blist S.bg)).getD i 0) ≤ (plus1 (blist S.bg)).getD j 0 := by
  have hp : (plus1 (blist S.bg)).Pairwise (fun a b => a + 2 + S.num a ≤ b) := by
    unfold plus1
    rw [List.pairwise_map]
    refine List.Pairwise.imp_of_mem ?_ (blist_sorted S.bg)
    intro a b ha hb hl
    have := hS.disj a b ((mem_blist _ _).1 ha) ((mem_blist _ _).1 hb) hl
    have e : S.num ((a : Int) + 1) = unN (S.A.getD a 0) := by
      unfold Hp.num
      rw [show ((a : Int) + 1 - 1).toNat = a by omega]
    rw [e]; omega
  have := List.pairwise_iff_getElem.1 hp i j (by omega) hj hij
  rw [List.getD_eq_getElem?_getD, List.getElem?_eq_getElem (by omega), List.getD_eq_getElem?_getD, List.getElem?_eq_getElem hj]
  exact this
/-- Is a reference as it should be? -/
theorem refs_fine {S : Hp} (hI : S.Inv) {r v : Int} (hr : S.is r = true) {n : Nat} (hn : (n : Int) ≤ S.num r) (hv : v ∈ S.refsTo r n) : (v = 0 ∧ S.is v = false) ∨ (v ≠ 0 ∧ S.is v = true ∧ (S.inY v = true → S.inY r = false → r ∈ plus1 (blist S.mr))) := by
  obtain ⟨j, hj, hb, rfl⟩ := mem_refsTo hv
  rcases hI.tight r hr j (by omega) hb with h0 | h1
  · left
    refine ⟨h0, ?_⟩
    rw [h0]; rfl
  · right
    refine ⟨fun h0 => ?_, h1, fun hy hn => marks_in hr (hI.barr r hr hn j (by omega) hb hy)⟩
    have := (is_bhas h1).2
    omega

set_option maxRecDepth 100000 in
set_option maxHeartbeats 8000000 in
theorem verify_any (L : HL) (cv mv : Value) (S : Hp) (p : Option Addr) (cap rb : Nat) (rs : List Int) (w : World) (h : HpAt w L cv mv S) (hI : S.Inv) (hlow : ∀ i ∈ L.all, i < w.heap.size) (hT : TzAt w) (hn : rs.length ≤ 100000)
    (hp : rs = [] ∨ p = some ⟨rb, 0, none⟩) (hr : ∀ i, i < rs.length → w.cell? ⟨rb, i, none⟩ = some (.int .i64 (rs.getD i 0))) (hrr : ∀ r ∈ rs, r = 0 ∨ S.is r = true) :
    Calls Tryd.prog 26 #[.pointer (some ⟨L.hb, 0, none⟩), .slice p rs.length cap] w fun e w' => e = .returned (.bool true) ∧ Upd [] w w' := by
  have hok := h.ok
  have hlA := hok.len
  have hzero : S.is 0 = false := rfl
  have H := Lib.hid h
  have HIN := Lib.hid hI
  have HR := Lib.hid hr
  have HRR := Lib.hid hrr
  have HP := Lib.hid hp
  have HLOW := Lib.hid hlow
  have HT := Lib.hid hT
  have HOB := Lib.hid (objects_any L cv mv S w h hT)
  clear h hI hr hrr hp hlow hT
  go_enter Tryd.func26, Tryd.ntmps26
  go_wp2_with fail
  refine HOB.out.mono ?_
  rintro e w1 ⟨u1, rfl, ho1, hu1⟩
  have HO1 := Lib.hid ho1
  have HU1 := Lib.hid hu1
  obtain ⟨p1, c1, rfl⟩ := ownI_shape HO1.out
  have HMA := Lib.hid (marked_any L cv mv S w1 (H.out.upd0 hu1) (HT.out.upd hu1 (by simp)))
  clear ho1 hu1 HOB
  go_wp2_with fail
  refine HMA.out.mono ?_
  rintro e w2 ⟨u2, rfl, ho2, hu2⟩
  have HO2 := Lib.hid ho2
  have HU2 := Lib.hid (HU1.out.trans hu2)
  have HO1' := Lib.hid (HO1.out.upd hu2 (by simp))
  obtain ⟨p2, c2, rfl⟩ := ownI_shape HO2.out
  have hObl : (plus1 (blist S.bg)).length ≤ 65536 := by
    have h1 := bupto_len S.bg (64 * S.bg.length)
    have h2 := H.out.bg.2.2.2.1
    unfold plus1 blist
    rw [List.length_map]
    omega
  have hMkl : (plus1 (blist S.mr)).length ≤ 65536 := by
    have h1 := bupto_len S.mr (64 * S.mr.length)
    have h2 := H.out.mr.2.2.2.1
    unfold plus1 blist
    rw [List.length_map]
    omega
  have HOBJ : Hid (∀ i, i < (plus1 (blist S.bg)).length → S.is ((plus1 (blist S.bg)).getD i 0) = true) := fun i hi => objs_is (getD_mem hi 0)
  have HEND : Hid (∀ i j, i < j → j < (plus1 (blist S.bg)).length → (plus1 (blist S.bg)).getD i 0 + 2 + S.num ((plus1 (blist S.bg)).getD i 0) ≤ (plus1 (blist S.bg)).getD j 0) := fun i j hij hj => objs_end hok hij hj
  have HC1 : Hid (∀ i, i < (plus1 (blist S.bg)).length → ∃ g, p1 = some ⟨g, 0, none⟩ ∧ w2.cell? ⟨g, i, none⟩ = some (.int .i64 ((plus1 (blist S.bg)).getD i 0))) := fun i hi => by
    rcases HO1'.out.form with ⟨_, h2⟩ | ⟨g, c, h1, _, _, _, h5⟩
    · rw [h2] at hi; cases hi
    · injection h1 with e1 e2 e3
      exact ⟨g, e1, h5 i hi⟩
  have HFI : Hid (∀ r, S.is r = true → ∀ v ∈ S.refsTo r (S.num r).toNat, (v = 0 ∧ S.is v = false) ∨ (v ≠ 0 ∧ S.is v = true ∧ (S.inY v = true → S.inY r = false → r ∈ plus1 (blist S.mr)))) := fun r hr v hv => refs_fine HIN.out hr (by have : 0 ≤ S.num r := unN_nonneg _; omega) hv
  have HLE : Hid (∀ r, S.is r = true → 1 ≤ r ∧ r + 1 + S.num r ≤ S.A.length ∧ 0 ≤ S.num r) := fun r hr => by have := hok.le hr; exact ⟨this.1, this.2.1, this.2.2.1⟩
  have HCO : Hid (∀ W, Upd [] w2 W → ∀ x ∈ plus1 (blist S.mr), Calls Tryd.prog 55 #[.slice p2 (plus1 (blist S.mr)).length c2, .int .i64 x] W fun e w' => e = .returned (.bool true) ∧ W = w') := fun W hW x hx => by
    rcases HO2.out.form with ⟨_, h2⟩ | ⟨g, c, h1, _, _, _, h5⟩
    · rw [h2] at hx; cases hx
    · injection h1 with e1 e2 e3
      subst e1
      refine (Tryd.slices_Contains_int g 0 (plus1 (blist S.mr)).length c2 (plus1 (blist S.mr)) x W (Nat.le_refl _) (by omega) (fun j hj => by rw [Nat.zero_add]; exact hW.cell (h5 j hj) (by simp))).mono ?_
      rintro e w' ⟨rfl, rfl⟩
      rw [List.take_length, List.contains_iff_mem.2 hx]
      exact ⟨rfl, rfl⟩
  have HIA : Hid (∀ W, Upd [] w2 W → ∀ x, x ≤ 65536 → Calls Tryd.prog 18 #[.pointer (some ⟨L.hb, 0, none⟩), .int .i64 x] W fun e w' => e = .returned (.tuple #[.int .i64 (if S.is x = true then S.cls x else 0), .int .i64 (if S.is x = true then S.num x else 0), .bool (S.is x)]) ∧ W = w') := fun W hW x hx => is_any L cv mv S x W (H.out.upd0 (HU2.out.trans hW)) (by omega)
  have HIY : Hid (∀ W, Upd [] w2 W → ∀ x, x ≤ 65536 → Calls Tryd.prog 33 #[.pointer (some ⟨L.hb, 0, none⟩), .int .i64 x] W fun e w' => e = .returned (.bool (S.inY x)) ∧ W = w') := fun W hW x hx => inYoung_any L cv mv S x W (H.out.upd0 (HU2.out.trans hW)) (by omega)
  have HRE : Hid (∀ W, Upd [] w2 W → ∀ r, S.is r = true → Calls Tryd.prog 54 #[.pointer (some ⟨L.hb, 0, none⟩), .int .i64 r] W fun e w' => ∃ u, e = .returned u ∧ OwnI w' W.heap.size 3 u (S.refsTo r (S.num r).toNat) ∧ Upd [] W w') := fun W hW r hr => hrefs_any L cv mv S r W (H.out.upd0 (HU2.out.trans hW)) (fun i hi => Nat.lt_of_lt_of_le (HLOW.out i hi) (HU2.out.trans hW).size) hr
  have HRL : Hid (∀ r, S.is r = true → (S.refsTo r (S.num r).toNat).length ≤ 65536) := fun r hr => by
    have h1 := refsTo_len S r (S.num r).toNat
    have h2 := HLE.out r hr
    omega
  generalize plus1 (blist S.bg) = os at *
  generalize plus1 (blist S.mr) = ms at *
  clear HMA HO1 HO1' HO2 hu2 ho2
  go_wp2_with fail
  go_loopw [6, 29] (fun ev iv wr => ∃ i : Nat, ∃ en : Int, i ≤ os.length ∧ iv = .int .i64 i ∧ ev = .int .i64 en ∧ Hid (∀ j, i ≤ j → j < os.length → en ≤ os.getD j 0) ∧ Hid (Upd [] w2 wr)) (fun _ iv _ => os.length - (intOf iv).toNat)
  case atStart => exact ⟨0, 0, by omega, rfl, rfl, (fun j _ hj => by have := HLE.out _ (HOBJ.out j hj); omega), Upd.refl _ _⟩
  case round =>
    obtain ⟨i, en, hi, rfl, rfl, HE, HV⟩ := hrel
    obtain ⟨wo, rfl⟩ : ∃ wo : World, wo = wr := ⟨_, rfl⟩
    by_cases hlt : i < os.length
    · obtain ⟨g, rfl, hc⟩ := HC1.out i hlt
      have hc := HV.out.cell hc (by simp)
      have hir := HOBJ.out i hlt
      have hge := HE.out i (Nat.le_refl _) hlt
      have HNX : Hid (∀ j, i + 1 ≤ j → j < os.length → os.getD i 0 + 2 + S.num (os.getD i 0) ≤ os.getD j 0) := fun j h1 h2 => HEND.out i j h1 h2
      generalize os.getD i 0 = r at hc hir hge HNX
      have hle := HLE.out r hir
      have e1 : decide (r < en) = false := decide_eq_false (by omega)
      have hIS := HIA.out wo HV.out r (by omega)
      rw [hir, if_pos rfl, if_pos rfl] at hIS
      have HIS := Lib.hid hIS
      have HREF := Lib.hid (HRE.out wo HV.out r hir)
      have HFR := Lib.hid (HFI.out r hir)
      have hrl := HRL.out r hir
      generalize S.refsTo r (S.num r).toNat = fs at HREF HFR hrl
      generalize S.num r = nn at *
      clear hIS hir
      go_wp2_with fail
      refine HIS.out.mono ?_
      rintro e w5 ⟨rfl, rfl⟩
      go_wp2_with fail
      refine HREF.out.mono ?_
      rintro e w5 ⟨u3, rfl, ho3, hu3⟩
      have HO3 := Lib.hid ho3
      obtain ⟨p3, c3, rfl⟩ := ownI_shape HO3.out
      have HV5 := Lib.hid (HV.out.trans hu3)
      clear ho3 hu3
      go_wp2_with fail
      go_loopw [55] (fun kv wr => ∃ k : Nat, k ≤ fs.length ∧ kv = .int .i64 k ∧ Hid (Upd [] w5 wr)) (fun kv _ => fs.length - (intOf kv).toNat)
      case atStart => exact ⟨0, by omega, rfl, Upd.refl _ _⟩
      case round =>
        obtain ⟨k, hk, rfl, HW⟩ := hrel
        obtain ⟨wq, rfl⟩ : ∃ wq : World, wq = wr := ⟨_, rfl⟩
        have HV6 := Lib.hid (HV5.out.trans HW.out)
        by_cases hkl : k < fs.length
        · obtain ⟨g3, rfl, hc3⟩ : ∃ g3, p3 = some ⟨g3, 0, none⟩ ∧ w5.cell? ⟨g3, k, none⟩ = some (.int .i64 (fs.getD k 0)) := by
            rcases HO3.out.form with ⟨_, h2⟩ | ⟨g, c, h1, _, _, _, h5⟩
            · rw [h2] at hkl; cases hkl
            · injection h1 with e1 e2 e3
              exact ⟨g, e1, h5 k hkl⟩
          have hc3 := HW.out.cell hc3 (by simp)
          have hfv := HFR.out _ (getD_mem hkl 0)
          generalize fs.getD k 0 = v at hc3 hfv
          rcases hfv with ⟨rfl, hno⟩ | ⟨hv0, hv1, hmk⟩
          · have hIS := HIA.out wq HV6.out 0 (by omega)
            rw [hno, if_neg (by simp), if_neg (by simp)] at hIS
            have HIS := Lib.hid hIS
            clear hIS
            go_wp2_with fail
            refine HIS.out.mono ?_
            rintro e w7 ⟨rfl, rfl⟩
            go_wp2_with fail
            go_roundw
            case rel => exact ⟨k + 1, by omega, by go_num, HW⟩
            case measure => simp [intOf]; omega
          · have hlv := HLE.out v hv1
            have d1 : decide (v = 0) = false := decide_eq_false hv0
            have d2 : decide (v ≠ 0) = true := decide_eq_true hv0
            have hIS := HIA.out wq HV6.out v (by omega)
            rw [hv1, if_pos rfl, if_pos rfl] at hIS
            have HIS := Lib.hid hIS
            have hY := HIY.out wq HV6.out v (by omega)
            have hYr := HIY.out wq HV6.out r (by omega)
            generalize S.num v = nv at *
            clear hIS
            cases hy : S.inY v with
            | false =>
              rw [hy] at hY
              have HY := Lib.hid hY
              clear hY hYr hmk
              go_wp2_with fail
              refine HIS.out.mono ?_
              rintro e w7 ⟨rfl, rfl⟩
              go_wp2_with fail
              refine HY.out.mono ?_
              rintro e w7 ⟨rfl, rfl⟩
              go_wp2_with fail
              go_roundw
              case rel => exact ⟨k + 1, by omega, by go_num, HW⟩
              case measure => simp [intOf]; omega
            | true =>
              rw [hy] at hY
              have HY := Lib.hid hY
              cases hyr : S.inY r with
              | true =>
                rw [hyr] at hYr
                have HYR := Lib.hid hYr
                clear hY hYr hmk
                go_wp2_with fail
                refine HIS.out.mono ?_
                rintro e w7 ⟨rfl, rfl⟩
                go_wp2_with fail
                refine HY.out.mono ?_
                rintro e w7 ⟨rfl, rfl⟩
                go_wp2_with fail
                refine HYR.out.mono ?_
                rintro e w7 ⟨rfl, rfl⟩
                go_wp2_with fail
                go_roundw
                case rel => exact ⟨k + 1, by omega, by go_num, HW⟩
                case measure => simp [intOf]; omega
              | false =>
                rw [hyr] at hYr
                have HYR := Lib.hid hYr
                have HCN := Lib.hid (HCO.out wq HV6.out r (hmk hy hyr))
                clear hY hYr hmk
                go_wp2_with fail
                refine HIS.out.mono ?_
                rintro e w7 ⟨rfl, rfl⟩
                go_wp2_with fail
                refine HY.out.mono ?_
                rintro e w7 ⟨rfl, rfl⟩
                go_wp2_with fail
                refine HYR.out.mono ?_
                rintro e w7 ⟨rfl, rfl⟩
                go_wp2_with fail
                refine HCN.out.mono ?_
                rintro e w7 ⟨rfl, rfl⟩
                go_wp2_with fail
                go_roundw
                case rel => exact ⟨k + 1, by omega, by go_num, HW⟩
                case measure => simp [intOf]; omega
        · obtain rfl : k = fs.length := by omega
          go_wp2_with fail
          go_roundw
          case rel => exact ⟨i + 1, r + 2 + nn, by omega, by go_num, by go_num, HNX, HV6⟩
          case measure => simp [intOf]; omega
    · obtain rfl : i = os.length := by omega
      clear HIA HIY HRE HCO HFI HRL HEND HOBJ HC1 HE
      go_wp2_with fail
      have HV8 := Lib.hid (HU2.out.trans HV.out)
      have HIA : Hid (∀ W, Upd [] w W → ∀ x, x ≤ 65536 → Calls Tryd.prog 18 #[.pointer (some ⟨L.hb, 0, none⟩), .int .i64 x] W fun e w' => e = .returned (.tuple #[.int .i64 (if S.is x = true then S.cls x else 0), .int .i64 (if S.is x = true then S.num x else 0), .bool (S.is x)]) ∧ W = w') := fun W hW x hx => is_any L cv mv S x W (H.out.upd0 hW) (by omega)
      go_loopw [96] (fun kv wr => ∃ k : Nat, k ≤ rs.length ∧ kv = .int .i64 k ∧ Hid (Upd [] w wr)) (fun kv _ => rs.length - (intOf kv).toNat)
      case atStart => exact ⟨0, by omega, rfl, HV8⟩
      case round =>
        obtain ⟨k, hk, rfl, HW⟩ := hrel
        obtain ⟨wq, rfl⟩ : ∃ wq : World, wq = wr := ⟨_, rfl⟩
        by_cases hkl : k < rs.length
        · obtain rfl : p = some ⟨rb, 0, none⟩ := by
            rcases HP.out with h2 | h2
            · rw [h2] at hkl; cases hkl
            · exact h2
          have hc3 := HW.out.cell (HR.out k hkl) (by simp)
          have hfv := HRR.out _ (getD_mem hkl 0)
          generalize rs.getD k 0 = v at hc3 hfv
          by_cases hv0 : v = 0
          · subst hv0
            have hIS := HIA.out wq HW.out 0 (by omega)
            rw [hzero, if_neg (by simp), if_neg (by simp)] at hIS
            have HIS := Lib.hid hIS
            clear hIS
            go_wp2_with fail
            refine HIS.out.mono ?_
            rintro e w7 ⟨rfl, rfl⟩
            go_wp2_with fail
            go_roundw
            case rel => exact ⟨k + 1, by omega, by go_num, HW⟩
            case measure => simp [intOf]; omega
          · have hv1 : S.is v = true := hfv.resolve_left hv0
            have hlv := HLE.out v hv1
            have d1 : decide (v = 0) = false := decide_eq_false hv0
            have d2 : decide (v ≠ 0) = true := decide_eq_true hv0
            have hIS := HIA.out wq HW.out v (by omega)
            rw [hv1, if_pos rfl, if_pos rfl] at hIS
            have HIS := Lib.hid hIS
            generalize S.num v = nv at *
            clear hIS
            go_wp2_with fail
            refine HIS.out.mono ?_
            rintro e w7 ⟨rfl, rfl⟩
            go_wp2_with fail
            go_roundw
            case rel => exact ⟨k + 1, by omega, by go_num, HW⟩
            case measure => simp [intOf]; omega
        · obtain rfl : k = rs.length := by omega
          go_wp2_with fail
          go_ret
          exact ⟨rfl, HW.out⟩
end Go.Proofs.YtneeljhjfmcdoaaDoor
