/- model's words(): the closure that meets values. -/
import Derived.Test.YtojobkhidlfeoaaGreatDoorMdP
import Derived.Test.YtojobkhidlfeoaaGreatDoorMwA
namespace Go.Proofs.YtojobkhidlfeoaaGreatDoor
open Go.RowKit

def intsN (l : List Nat) : List Int := l.map fun (k : Nat) => (k : Int)
theorem intsN_len (l : List Nat) : (intsN l).length = l.length := by simp [intsN]
theorem intsN_snoc (l : List Nat) (k : Nat) : intsN (l ++ [k]) = intsN l ++ [(k : Int)] := by simp [intsN]
theorem take_sV {α : Type} [Inhabited α] {l : List α} {k : Nat} (h : k < l.length) : l.take (k + 1) = l.take k ++ [l.getD k default] := by
 rw [List.take_succ_eq_append_getElem h, List.getD_eq_getElem?_getD, List.getElem?_eq_getElem h]
 rfl
/-- What is seen, and the work, in memory. -/
structure WkS (w0 wr : World) (sx sb wx : Nat) (seen : List Bool) (work : List Nat) : Prop where
 sbx : wr.heap[sx]? = some (.cells #[.slice (some ⟨sb, 0, none⟩) seen.length seen.length] 135)
 row : wr.heap[sb]? = some (.cells (seen.map Value.bool).toArray 4)
 wbx : ∃ wv, wr.heap[wx]? = some (.cells #[wv] 26) ∧ OwnI wr w0.heap.size 2 wv (intsN work)
 upd : Upd [] w0 wr
 lo : w0.heap.size ≤ sx ∧ w0.heap.size ≤ sb ∧ w0.heap.size ≤ wx
theorem blk_ne {w : World} {a b : Nat} {c c' : Array Value} {t t' : TypeId} (h : w.heap[a]? = some (.cells c t)) (h' : w.heap[b]? = some (.cells c' t')) (hne : t ≠ t') : a ≠ b := by
 rintro rfl
 exact hne (typ_ne h h')
theorem WkS.keep {w0 wr w' : World} {sx sb wx : Nat} {seen : List Bool} {work : List Nat} (h : WkS w0 wr sx sb wx seen work) (hu : Upd [] wr w') : WkS w0 w' sx sb wx seen work := by
 obtain ⟨wv, h1, h2⟩ := h.wbx
 exact ⟨hu.heap h.sbx (by simp), hu.heap h.row (by simp), ⟨wv, hu.heap h1 (by simp), row_upd h2 hu (by simp)⟩, h.upd.trans hu, h.lo⟩
theorem WkS.see {w0 wr : World} {sx sb wx k : Nat} {seen : List Bool} {work : List Nat} (h : WkS w0 wr sx sb wx seen work) : WkS w0 (wr.setCell ⟨sb, k, none⟩ (.bool true)) sx sb wx (seen.set k true) work := by
 obtain ⟨wv, h1, h2⟩ := h.wbx
 have hu : Upd [sb] wr (wr.setCell ⟨sb, k, none⟩ (.bool true)) := (Upd.refl _ wr).setCell (.inl (by simp)) _
 have e1 := blk_ne h.sbx h.row (by decide)
 have e2 := blk_ne h1 h.row (by decide)
 refine ⟨?_, ?_, ⟨wv, hu.heap h1 (by simpa using e2), row_upd h2 hu (fun q hq hm => ?_)⟩, h.upd.trans' hu (fun i hi hl => by rw [List.mem_singleton] at hi; have := h.lo; omega), h.lo⟩
 ·rw [List.length_set]
  exact hu.heap h.sbx (by simpa using e1)
 ·have h3 := heap_setCell h.row k (.bool true)
  rw [h3]
  congr 2
  simp [List.map_set]
 ·rw [List.mem_singleton] at hm
  subst hm
  exact own_heap_ne h2 h.row (by decide) hq
/-- The work grows. -/
theorem WkS.push {w0 wr w6 : World} {sx sb wx : Nat} {seen : List Bool} {work : List Nat} {wv v' : Value} {o : Obj} {k : Nat} (h : WkS w0 wr sx sb wx seen work) (hw : wr.heap[wx]? = some (.cells #[wv] 26)) (hown : w6.ownsRow w0.heap.size 2 1 v' (work.length + 1) ((intsN work).map (Value.int .i64) ++ [.int .i64 k]))
  (hgr : (wr.alloc o).grownBy w6 wv.ownBlock) : WkS w0 (w6.setCell ⟨wx, 0, none⟩ v') sx sb wx seen (work ++ [k]) := by
 obtain ⟨wv2, h1, h2⟩ := h.wbx
 have e : wv2 = wv := by
  rw [h1] at hw
  injection hw with hw
  injection hw with hw
  simpa using hw
 subst e
 have hu6 : Upd wv2.ownBlock.toList wr w6 := ((Upd.refl _ wr).alloc o).grown hgr (fun q hq => Or.inl (Option.mem_toList.2 hq))
 have off : ∀ {b : Nat} {c : Array Value} {t : TypeId}, wr.heap[b]? = some (.cells c t) → 2 ≠ t → b ∉ wv2.ownBlock.toList := fun hb ht hm => own_heap_ne h2 hb ht (Option.mem_toList.1 hm)
 have a1 := hu6.heap h.sbx (off h.sbx (by decide))
 have a2 := hu6.heap h.row (off h.row (by decide))
 have a3 := hu6.heap h1 (off h1 (by decide))
 have hu7 : Upd [wx] w6 (w6.setCell ⟨wx, 0, none⟩ v') := (Upd.refl _ w6).setCell (.inl (by simp)) _
 have e1 := blk_ne h.sbx h1 (by decide)
 have e2 := blk_ne h.row h1 (by decide)
 refine ⟨hu7.heap a1 (by simpa using e1), hu7.heap a2 (by simpa using e2), ⟨v', ?_, ?_⟩, (h.upd.trans' hu6 (fun i hi hl => ?_)).trans' hu7 (fun i hi hl => by rw [List.mem_singleton] at hi; have := h.lo; omega), h.lo⟩
 ·have h3 := heap_setCell a3 0 v'
  simpa using h3
 ·have h4 : OwnI w6 w0.heap.size 2 v' (intsN (work ++ [k])) := by
   unfold OwnI
   rw [intsN_snoc, List.map_append, List.length_append, intsN_len]
   exact hown
  refine row_upd h4 hu7 (fun q hq hm => ?_)
  rw [List.mem_singleton] at hm
  subst hm
  exact own_heap_ne h4 a3 (by decide) hq
 ·have := (World.ownsRow.lt h2 i (Option.mem_toList.1 hi)).1
  omega
/-- Blocks of other types stay. -/
def KpT (w w' : World) : Prop := ∀ (k : Nat) (c : Array Value) (t : TypeId), w.heap[k]? = some (.cells c t) → t ≠ 4 → t ≠ 26 → t ≠ 2 → w'.heap[k]? = some (.cells c t)
theorem KpT.refl (w : World) : KpT w w := fun _ _ _ h _ _ _ => h
theorem KpT.trans {a b c : World} (h : KpT a b) (h2 : KpT b c) : KpT a c := fun k x t hk h1 h3 h4 => h2 k x t (h k x t hk h1 h3 h4) h1 h3 h4
theorem Upd.kpT {a b : World} (h : Upd [] a b) : KpT a b := fun _ _ _ hk _ _ _ => h.heap hk (by simp)
theorem WkS.seeK {w0 wr : World} {sx sb wx k : Nat} {seen : List Bool} {work : List Nat} (h : WkS w0 wr sx sb wx seen work) : KpT wr (wr.setCell ⟨sb, k, none⟩ (.bool true)) := fun q c t hq h1 _ _ => by
 have hu : Upd [sb] wr (wr.setCell ⟨sb, k, none⟩ (.bool true)) := (Upd.refl _ wr).setCell (.inl (by simp)) _
 exact hu.heap hq (by simpa using blk_ne hq h.row h1)
theorem WkS.pushK {w0 wr w6 : World} {sx sb wx : Nat} {seen : List Bool} {work : List Nat} {wv v' : Value} {o : Obj} (h : WkS w0 wr sx sb wx seen work) (hw : wr.heap[wx]? = some (.cells #[wv] 26)) (hgr : (wr.alloc o).grownBy w6 wv.ownBlock) : KpT wr (w6.setCell ⟨wx, 0, none⟩ v') := fun q c t hq _ h2 h3 => by
 obtain ⟨wv2, g1, g2⟩ := h.wbx
 have e : wv2 = wv := by
  rw [g1] at hw
  injection hw with hw
  injection hw with hw
  simpa using hw
 subst e
 have hu6 : Upd wv2.ownBlock.toList wr w6 := ((Upd.refl _ wr).alloc o).grown hgr (fun q hq => Or.inl (Option.mem_toList.2 hq))
 have a1 := hu6.heap hq (fun hm => own_heap_ne g2 hq (fun e => h3 e.symm) (Option.mem_toList.1 hm))
 have hu7 : Upd [wx] w6 (w6.setCell ⟨wx, 0, none⟩ v') := (Upd.refl _ w6).setCell (.inl (by simp)) _
 exact hu7.heap a1 (by simpa using blk_ne hq g1 h2)
theorem meetV_len : ∀ (l : List Vl) (seen : List Bool) (work : List Nat), (meetV l seen work).1.length = seen.length ∧ (meetV l seen work).2.length ≤ work.length + l.length
 | [], _, _ => ⟨rfl, by simp [meetV]⟩
 | v :: l, seen, work => by
  rw [meetV_cons]
  split
  ·have h := meetV_len l (seen.set v.n.toNat true) (work ++ [v.n.toNat])
   rw [List.length_set, List.length_append] at h
   refine ⟨h.1, ?_⟩
   simp only [List.length_cons, List.length_nil] at h ⊢
   omega
  ·have h := meetV_len l seen work
   refine ⟨h.1, ?_⟩
   simp only [List.length_cons]
   omega
theorem meetV_one {v : Vl} {seen : List Bool} {work : List Nat} : meetV [v] seen work = if v.ref = true ∧ v.n ≠ -1 ∧ seen.getD v.n.toNat false = false then (seen.set v.n.toNat true, work ++ [v.n.toNat]) else (seen, work) := rfl

set_option maxRecDepth 100000 in
set_option maxHeartbeats 4000000 in
theorem meet_any {w0 : World} {sx sb wx : Nat} {seen : List Bool} {work : List Nat} (p0 : Option Addr) (lc : Nat) (l : List Vl) (b o : Nat) (W : World) (hK : WkS w0 W sx sb wx seen work) (hl : VlV w0 (.slice p0 l.length lc) b o l) (hok : ∀ v ∈ l, v.Ok seen.length) (hn : l.length ≤ 1000) (hw : work.length ≤ 1000000) (hs : seen.length ≤ 1000000) :
  Calls Tryz.prog 93 #[.slice p0 l.length lc, .pointer (some ⟨sx, 0, none⟩), .pointer (some ⟨wx, 0, none⟩)] W fun e w' => e = .returned (.tuple #[]) ∧ WkS w0 w' sx sb wx (meetV l seen work).1 (meetV l seen work).2 ∧ KpT W w' := by
 obtain ⟨i0, hi, hz0, hz1, hz2⟩ := info_parts Tryz.infoLong
 have HI := Lib.hid hi
 have HZ0 := Lib.hid hz0
 have HZ1 := Lib.hid hz1
 have HZ2 := Lib.hid hz2
 clear hi hz0 hz1 hz2
 have HK0 := Lib.hid hK
 have HL := Lib.hid hl
 have HOK := Lib.hid hok
 have HS := Lib.hid hs
 have HW := Lib.hid hw
 clear hK hl hok hs hw
 go_enter Tryz.func93, Tryz.ntmps93
 go_wp2_with fail
 go_loopw [8] (fun i wr => ∃ k : Nat, k ≤ l.length ∧ i = .int .i64 k ∧ Hid (WkS w0 wr sx sb wx (meetV (l.take k) seen work).1 (meetV (l.take k) seen work).2) ∧ Hid (KpT W wr)) (fun i _ => l.length - (intOf i).toNat)
 case atStart => exact ⟨0, by omega, rfl, HK0, Lib.hid (KpT.refl _)⟩
 case round =>
  obtain ⟨k, hk, rfl, HK, HT⟩ := hrel
  by_cases hlt : k < l.length
  ·obtain ⟨c0', c1'⟩ := HL.out.2 k hlt
   obtain ⟨⟨p1, lc1, hpe, hp⟩, _⟩ := id HL.out
   injection hpe with e1 _ e3
   subst e1 e3
   have hp2 := hp (fun e => by rw [e] at hlt; simp at hlt)
   subst hp2
   have HSN : Hid (meetV (l.take (k + 1)) seen work = meetV [l.getD k default] (meetV (l.take k) seen work).1 (meetV (l.take k) seen work).2) := by
    show _ = _
    rw [take_sV hlt, meetV_snoc]
   have hvok := HOK.out _ (getD_mem hlt)
   have hlen := (meetV_len (l.take k) seen work).1
   have hlen2 := (meetV_len (l.take k) seen work).2
   have c0 := HK.out.upd.cell c0' (by simp)
   have c1 := HK.out.upd.cell c1' (by simp)
   generalize l.getD k default = v at c0 c1 HSN hvok
   obtain ⟨r, n⟩ := v
   obtain ⟨sn, hsn⟩ : ∃ sn, (meetV (l.take k) seen work).1 = sn := ⟨_, rfl⟩
   obtain ⟨wk, hwk⟩ : ∃ wk, (meetV (l.take k) seen work).2 = wk := ⟨_, rfl⟩
   rw [hsn] at HK HSN hlen
   rw [hwk] at HK HSN hlen2
   have HLEN := Lib.hid hlen
   have HWL : Hid (wk.length ≤ 1001000) := by
    have := HW.out
    rw [List.length_take] at hlen2
    show _ ≤ _
    omega
   have HSG := Lib.hid hsn
   have HWG := Lib.hid hwk
   clear hsn hwk hlen hlen2 c0' c1' hp
   have hu1 := (Upd.refl [] wr).alloc (.cells #[.bool r, .int .i64 n] 65)
   have hb1 := heap_alloc_new wr (.cells #[.bool r, .int .i64 n] 65)
   have HK1 := Lib.hid (HK.out.keep hu1)
   have HT1 := Lib.hid (HT.out.trans hu1.kpT)
   clear hu1 HK HT
   go_upto_region 3 with fail
   generalize wr.alloc (.cells #[.bool r, .int .i64 n] 65) = w1 at hb1 HK1 HT1 ⊢
   obtain ⟨vb, hvb⟩ : ∃ vb, wr.heap.size = vb := ⟨_, rfl⟩
   rw [hvb] at hb1 ⊢
   clear hvb
   have v0 : w1.cell? ⟨vb, 0, none⟩ = some (.bool r) := by rw [cell_of hb1]; rfl
   have v1 : w1.cell? ⟨vb, 1, none⟩ = some (.int .i64 n) := by rw [cell_of hb1]; rfl
   have HB1 := Lib.hid hb1
   clear hb1
   cases r with
   | false =>
    have HE : Hid (meetV (l.take (k + 1)) seen work = (sn, wk)) := by
     show _ = _
     rw [HSN.out, meetV_one, if_neg (by simp)]
    go_wp2_with fail
    go_roundw
    case rel => exact ⟨k + 1, by omega, by go_num, by rw [HE.out]; exact HK1, HT1⟩
    case measure => simp [intOf]; omega
   | true =>
    have hr := hvok.1 rfl
    by_cases hm : n = -1
    ·subst hm
     have HE : Hid (meetV (l.take (k + 1)) seen work = (sn, wk)) := by
      show _ = _
      rw [HSN.out, meetV_one, if_neg (by simp)]
     go_wp2_with fail
     go_roundw
     case rel => exact ⟨k + 1, by omega, by go_num, by rw [HE.out]; exact HK1, HT1⟩
     case measure => simp [intOf]; omega
    ·obtain ⟨j, rfl⟩ : ∃ j : Nat, n = (j : Int) := ⟨n.toNat, by have := hr.1; simp only at this; omega⟩
     have hj : j < sn.length := by
      have h2 := hr.2
      rw [HLEN.out]
      simp only at h2
      omega
     have hne : ((j : Int) == -1) = false := by simp
     have s0 : w1.cell? ⟨sx, 0, none⟩ = some (.slice (some ⟨sb, 0, none⟩) sn.length sn.length) := by rw [cell_of HK1.out.sbx]; rfl
     obtain ⟨bo, hbo⟩ : ∃ bo, sn.getD j false = bo := ⟨_, rfl⟩
     have s1 : w1.cell? ⟨sb, j, none⟩ = some (.bool bo) := by
      rw [cell_of HK1.out.row]
      simp [List.getElem?_map, List.getElem?_eq_getElem hj]
      rw [← hbo, List.getD_eq_getElem?_getD, List.getElem?_eq_getElem hj]
      rfl
     have hjl : (j : Int) < (sn.length : Int) := by omega
     have HBO := Lib.hid hbo
     clear hbo hr hm hvok
     cases bo with
     | true =>
      have HE : Hid (meetV (l.take (k + 1)) seen work = (sn, wk)) := by
       show _ = _
       rw [HSN.out, meetV_one, if_neg (fun h => by
        have := h.2.2
        simp only [Int.toNat_natCast] at this
        rw [HBO.out] at this
        cases this)]
      go_wp2_with fail
      go_roundw
      case rel => exact ⟨k + 1, by omega, by go_num, by rw [HE.out]; exact HK1, HT1⟩
      case measure => simp [intOf]; omega
     | false =>
      have HE : Hid (meetV (l.take (k + 1)) seen work = (sn.set j true, wk ++ [j])) := by
       show _ = _
       rw [HSN.out, meetV_one, if_pos (by
        refine ⟨rfl, by simp only; omega, ?_⟩
        simp only [Int.toNat_natCast]
        exact HBO.out)]
       rfl
      have z1 := froz_of HK1.out.row j
      have HK2 := Lib.hid (HK1.out.see (k := j))
      have HT2 := Lib.hid (HT1.out.trans (HK1.out.seeK (k := j)))
      have HBV : Hid ((w1.setCell ⟨sb, j, none⟩ (.bool true)).heap[vb]? = some (.cells #[.bool true, .int .i64 j] 65)) :=
       ((Upd.refl [sb] w1).setCell (.inl (by simp)) _).heap HB1.out (by simpa using blk_ne HB1.out HK1.out.row (by decide))
      go_upto_region 5 with fail
      generalize w1.setCell ⟨sb, j, none⟩ (.bool true) = w2 at HK2 HT2 HBV ⊢
      clear s0 s1 v0 v1 z1
      obtain ⟨wv, hwb, hown⟩ := HK2.out.wbx
      have v1 : w2.cell? ⟨vb, 1, none⟩ = some (.int .i64 j) := by rw [cell_of HBV.out]; rfl
      have x0 : w2.cell? ⟨wx, 0, none⟩ = some wv := by rw [cell_of hwb]; rfl
      have HWB := Lib.hid hwb
      have HOWN := Lib.hid hown
      obtain ⟨wp, wc, rfl⟩ : ∃ wp wc, wv = .slice wp wk.length wc := by
       rcases hown.form with ⟨h1, h2⟩ | ⟨g, c, h1, _⟩
       ·have h3 : wk = [] := by simpa [intsN] using h2
        subst h3
        exact ⟨none, 0, h1⟩
       ·exact ⟨_, c, by rw [h1, intsN_len]⟩
      have hown2 : w2.ownsRow w0.heap.size 2 1 (.slice wp wk.length wc) wk.length ((intsN wk).map (Value.int .i64)) := by
       have := hown
       unfold OwnI at this
       rw [intsN_len] at this
       exact this
      have hwl := HWL.out
      have hsz2 : w0.heap.size ≤ w2.heap.size := HK2.out.upd.size
      clear hwb hown
      go_wp2_with (at_builtin; refine stop_here ?_)
      refine Hid.mk ?_
      refine (wpList_append_own _ rfl _ _ 26 rfl w0.heap.size 2 i0 (.int .i64 0) 1 8 Tryz.underlying26 HI.out HZ0.out HZ1.out HZ2.out rfl (by decide) _ _ _ rfl (hown2.alloc _) ⟨w2.heap.size, 0, none⟩ 1 1 [.int .i64 j] rfl rfl ?c1 ?c2 ?c3 ?c4 ?c5 ?c6)
      case c1 => exact cell_one_new _ _ _
      case c2 => simp [Value.oneCell']
      case c3 => unfold maxLen; omega
      case c4 => omega
      case c5 => simp; omega
      case c6 =>
       intro v' w6 hown6 hgr6 _
       have HKE := Lib.hid (HK2.out.push HWB.out hown6 hgr6)
       have HTE : Hid (KpT W (w6.setCell ⟨wx, 0, none⟩ v')) := HT2.out.trans (HK2.out.pushK HWB.out hgr6)
       obtain ⟨vp, vc, rfl⟩ : ∃ vp vc, v' = .slice vp (wk.length + 1) vc := by
        rcases hown6.2 with ⟨_, h2⟩ | ⟨g, c, cur, h1, _⟩
        ·omega
        ·exact ⟨_, c, h1⟩
       have hwx : w6.cell? ⟨wx, 0, none⟩ = some (.slice wp wk.length wc) ∧ w6.frozen? ⟨wx, 0, none⟩ = false := by
        have hu6 : Upd (Value.ownBlock (.slice wp wk.length wc)).toList w2 w6 := ((Upd.refl _ w2).alloc _).grown hgr6 (fun q hq => Or.inl (Option.mem_toList.2 hq))
        have h3 := hu6.heap HWB.out (fun hm => own_heap_ne HOWN.out HWB.out (by decide) (Option.mem_toList.1 hm))
        exact ⟨by rw [cell_of h3]; rfl, froz_of h3 0⟩
       obtain ⟨y0, y1⟩ := hwx
       clear hown2 hown6 hgr6 x0 v1
       go_wp2_with fail
       go_roundw
       case rel => exact ⟨k + 1, by omega, by go_num, by rw [HE.out]; exact HKE, HTE⟩
       case measure => simp [intOf]; omega
  ·obtain rfl : k = l.length := by omega
   rw [List.take_length] at HK
   go_wp2_with fail
   go_end0
   exact ⟨rfl, HK.out, HT.out⟩
end Go.Proofs.YtojobkhidlfeoaaGreatDoor
