/- verify.step. What verify.look makes and turns in memory. -/
import Derived.Test.YtojobkhidlfeoaaDoorEff
import Derived.Test.YtojobkhidlfeoaaDoorStepL
import Derived.Test.YtojobkhidlfeoaaDoorSent
import Derived.Test.YtojobkhidlfeoaaDoorShelf
import Derived.Test.YtojobkhidlfeoaaDoorVerL5
import Derived.Test.YtojobkhidlfeoaaDoorNext
import Derived.Test.YtojobkhidlfeoaaDoorBools
/-! verify.step. -/
namespace Go.Proofs.YtojobkhidlfeoaaDoor
open Go.RowKit

/-- What step answers. -/
def stepV (E : Nat → Addr) (r : Except Int (List UInt8)) : Value := match r with
 | .ok t => .tuple #[.string (bs t), .nilIface]
 | .error c => .tuple #[.string (bs []), errC E c]
theorem ret_step {E : Nat → Addr} {r r' : Except Int (List UInt8)} {v : Value} (h : r' = r) (e : v = stepV E r) : Ending.returned v = .returned (stepV E r') := by rw [h, e]
theorem stepV_err (E : Nat → Addr) (k : Nat) : stepV E (.error (101 + (k : Int))) = .tuple #[.string (bs []), .iface 175 (.pointer (some (E k)))] := by
 unfold stepV errC sErr
 simp only
 rw [if_neg (by omega), show ((101 : Int) + (k : Int) - 101).toNat = k by omega]

theorem two_parts (e : ByteArray) (D : List UInt8) (h : e.toList = D) (h2 : D.length = 2) : (e.extract 1 2).toList = D.drop 1 ∧ (e.extract 0 1).toList = D.take 1 := by
 rw [list_extract, list_extract, h, List.take_of_length_le (by rw [List.length_drop, h2]; omega), List.drop_zero]
 exact ⟨rfl, rfl⟩
theorem parts_size (e : ByteArray) : (e.extract 1 2 ++ e.extract 0 1).size ≤ 100 := by
 rw [ByteArray.size_append, ByteArray.size_extract, ByteArray.size_extract]
 omega
theorem suffix_drop (s p : ByteArray) (h : p.size ≤ s.size) : Lib.hasSuffix s.data.toList p.data.toList = decide (s.toList.drop (s.toList.length - p.toList.length) = p.toList) := by
 rw [← Lib.hasSuffix_of_drop, ByteArray.toList_eq, ByteArray.toList_eq]
 have e : decide (p.data.toList.length ≤ s.data.toList.length) = true := decide_eq_true (by rw [← Lib.size_eq, ← Lib.size_eq]; exact h)
 rw [e, Bool.true_and, Bool.eq_iff_iff]
 simp

set_option maxRecDepth 100000 in
set_option maxHeartbeats 4000000 in
theorem step_any (p : Prg) (hok : p.Ok) (k : Nat) (cv mv : Value) (x : Ins) (s : ByteArray) (E : Nat → Addr) (w : World) (hS : SentAt w E) (hc : ClassAt w cv p.cs) (hm : MethsAt w mv p.ms) (hk : k < p.ms.length) (hop : 1 ≤ x.op ∧ x.op ≤ 35) (hs : s.size ≤ 1000) :
  Calls Tryd.prog 27 #[.agg #[cv, mv], .int .i64 k, .agg #[.int .i64 x.op, .int .i64 x.a, .int .i64 x.b, .int .i64 x.n], .string s] w fun e w' => e = .returned (stepV E (behL p (p.ms.getD k default) x s.toList)) ∧ Upd [] w w' := by
 have HES := Lib.hid (fun (a b : List UInt8) (he : effL p (p.ms.getD k default) x = some (a, b)) => eff_sizes hok he)
 have HEN := Lib.hid (fun (he : effL p (p.ms.getD k default) x = none) => eff_none hop he)
 have HEE := Lib.hid (fun w hc hm => effect_any p k cv mv x w hc hm hk (by have := hok.many; omega) (by have := hok.few; omega) (fun c h => by have := hok.small c h; omega) (by have := hok.sizes k; omega) (by have := hok.sizes k; omega) hop)
 have hlen := size_list s
 have HLEN := Lib.hid hlen
 clear hlen
 generalize p.ms.getD k default = m at HES HEN HEE ⊢
 obtain ⟨op, a, b, n⟩ := x
 simp only at hop
 have hU0 := (((Upd.refl [] w).alloc (.cells #[cv, mv] 36)).alloc (.cells #[.int .i64 op, .int .i64 a, .int .i64 b, .int .i64 n] 29))
 have hS0 := hS.upd hU0
 have hc0 := hc.upd hU0
 have hm0 := hm.upd hU0
 have HU0 := Lib.hid hU0
 clear hS hc hm hU0
 go_enter Tryd.func27, Tryd.ntmps27
 go_wp2_with fail
 have HE2 := Lib.hid (HEE.out _ hc0 hm0)
 clear hc0 hm0 HEE
 refine HE2.out.mono ?_
 rintro e w1 ⟨rfl, hu1⟩
 have hb1 : w1.heap[w.heap.size + 1]? = some (.cells #[.int .i64 op, .int .i64 a, .int .i64 b, .int .i64 n] 29) := by
  have h := heap_alloc_new (w.alloc (.cells #[cv, mv] 36)) (.cells #[.int .i64 op, .int .i64 a, .int .i64 b, .int .i64 n] 29)
  rw [show (w.alloc (.cells #[cv, mv] 36)).heap.size = w.heap.size + 1 by simp] at h
  exact hu1.heap h (by simp)
 have i0 : w1.cell? ⟨w.heap.size + 1, 0, none⟩ = some (.int .i64 op) := by rw [cell_of hb1]; rfl
 have hS1 := hS0.upd hu1
 have HU1 := Lib.hid (HU0.out.trans hu1)
 have g6 : w1.cell? ⟨7, 0, none⟩ = some (.iface 175 (.pointer (some (E 7)))) := hS1.g 7 (by omega)
 have g1 : w1.cell? ⟨2, 0, none⟩ = some (.iface 175 (.pointer (some (E 1)))) := hS1.g 1 (by omega)
 clear hb1 hu1 hS0 hS1 HU0 HE2
 generalize w1.heap.size = B1
 generalize hr : effL p m ⟨op, a, b, n⟩ = r
 have HR0 := Lib.hid hr
 clear hr
 obtain ⟨pb, qb, bb, hev, hbf, hbt⟩ : ∃ pb qb bb, effV r = .tuple #[.string pb, .string qb, .bool bb] ∧ (bb = false → r = none ∧ qb = bs []) ∧ (bb = true → ∃ pop push, r = some (pop, push) ∧ pb = bs pop ∧ qb = bs push) := by
  cases r with
  | none => exact ⟨_, _, _, rfl, fun _ => ⟨rfl, rfl⟩, fun h => by cases h⟩
  | some r => obtain ⟨a, b⟩ := r; exact ⟨_, _, _, rfl, fun h => (by cases h), fun _ => ⟨a, b, rfl, rfl, rfl⟩⟩
 have HBF := Lib.hid hbf
 have HBT := Lib.hid hbt
 rw [hev]
 clear hbf hbt hev
 go_upto_if 27 with fail
 go_cut [11, 12] (fun v11 v12 wx => (∃ m, wx = w1.drewN m) ∧ ∃ pv qv : ByteArray, v11 = .string pv ∧ v12 = .string qv ∧ pv.size ≤ 12 ∧ qv.size ≤ 100 ∧ Hid (behL p m ⟨op, a, b, n⟩ s.toList = tailL ⟨op, a, b, n⟩ s.toList pv.toList qv.toList))
 case first =>
  cases bb with
  | true =>
   obtain ⟨pop, push, hrr, rfl, rfl⟩ := HBT.out rfl
   have HR0 : Hid (effL p m ⟨op, a, b, n⟩ = some (pop, push)) := HR0.out.trans hrr
   clear hrr HBT HBF
   have hz := HES.out pop push HR0.out
   have hne := eff_some HR0.out
   have HB : Hid (behL p m ⟨op, a, b, n⟩ s.toList = tailL ⟨op, a, b, n⟩ s.toList (bs pop).toList (bs push).toList) := by show _ = _; rw [bs_list, bs_list]; exact beh_some hne.1 hne.2.1 hne.2.2 HR0.out
   have hz2 : (bs pop).size ≤ 12 ∧ (bs push).size ≤ 100 := by rw [bs_size, bs_size]; omega
   clear HR0 hne hz hop
   go_wp2_with fail
   go_meet
   exact ⟨⟨0, rfl⟩, _, _, rfl, rfl, hz2.1, hz2.2, HB⟩
  | false =>
   obtain ⟨hrn, rfl⟩ := HBF.out rfl
   have hcase : op = 5 ∨ op = 6 ∨ op = 7 := HEN.out (HR0.out.trans hrn)
   clear hrn HBF HBT HR0 HEN HES hop
   rcases hcase with rfl | rfl | rfl
   ·by_cases hl : s.size < 1
    ·have dl : decide ((s.size : Int) < 1) = true := decide_eq_true (by omega)
     have HR : Hid (behL p m ⟨5, a, b, n⟩ s.toList = .error 108) := beh_low (.inl ⟨.inl rfl, by rw [← HLEN.out]; exact hl⟩)
     clear hl
     go_wp2_with fail
     go_quiet (fail)
     go_wp2_with fail
     go_ret2
     exact ⟨ret_step HR.out (stepV_err E 7).symm, HU1.out.drewN _⟩
    ·have dl : decide ((s.size : Int) < 1) = false := decide_eq_false (by omega)
     have hx : (s.extract (s.size - 1) s.size).size = 1 := by rw [ByteArray.size_extract]; omega
     have HB : Hid (behL p m ⟨5, a, b, n⟩ s.toList = tailL ⟨5, a, b, n⟩ s.toList (s.extract (s.size - 1) s.size).toList (s.extract (s.size - 1) s.size ++ s.extract (s.size - 1) s.size).toList) := by
      show _ = _
      rw [beh_dup (by rfl) (by rw [← HLEN.out]; omega)]
      simp only [list_append, list_extract, HLEN.out]
      simp only [show s.toList.length - (s.toList.length - 1) = 1 by have := HLEN.out; omega]
      rw [List.take_of_length_le (by rw [List.length_drop]; omega)]
     have HX := Lib.hid hx
     go_wp2_with fail
     go_meet
     exact ⟨⟨0, rfl⟩, _, _, rfl, rfl, by rw [HX.out]; omega, by rw [ByteArray.size_append, HX.out]; omega, HB⟩
   ·by_cases hl : s.size < 1
    ·have dl : decide ((s.size : Int) < 1) = true := decide_eq_true (by omega)
     have HR : Hid (behL p m ⟨6, a, b, n⟩ s.toList = .error 108) := beh_low (.inl ⟨.inr rfl, by rw [← HLEN.out]; exact hl⟩)
     clear hl
     go_wp2_with fail
     go_quiet (fail)
     go_wp2_with fail
     go_ret2
     exact ⟨ret_step HR.out (stepV_err E 7).symm, HU1.out.drewN _⟩
    ·have dl : decide ((s.size : Int) < 1) = false := decide_eq_false (by omega)
     have hx : (s.extract (s.size - 1) s.size).size = 1 := by rw [ByteArray.size_extract]; omega
     have HB : Hid (behL p m ⟨6, a, b, n⟩ s.toList = tailL ⟨6, a, b, n⟩ s.toList (s.extract (s.size - 1) s.size).toList (bs []).toList) := by
      show _ = _
      rw [beh_pop (by rfl) (by rw [← HLEN.out]; omega)]
      simp only [list_extract, HLEN.out, bs_list]
      simp only [show s.toList.length - (s.toList.length - 1) = 1 by have := HLEN.out; omega]
      rw [List.take_of_length_le (by rw [List.length_drop]; omega)]
     have HX := Lib.hid hx
     go_wp2_with fail
     go_meet
     exact ⟨⟨0, rfl⟩, _, _, rfl, rfl, by rw [HX.out]; omega, by rw [bs_size]; simp, HB⟩
   ·by_cases hl : s.size < 2
    ·have dl : decide ((s.size : Int) < 2) = true := decide_eq_true (by omega)
     have HR : Hid (behL p m ⟨7, a, b, n⟩ s.toList = .error 108) := beh_low (.inr ⟨rfl, by rw [← HLEN.out]; exact hl⟩)
     clear hl
     go_wp2_with fail
     go_quiet (fail)
     go_wp2_with fail
     go_ret2
     exact ⟨ret_step HR.out (stepV_err E 7).symm, HU1.out.drewN _⟩
    ·have dl : decide ((s.size : Int) < 2) = false := decide_eq_false (by omega)
     have hx : (s.extract (s.size - 2) s.size).size = 2 := by rw [ByteArray.size_extract]; omega
     have HB : Hid (behL p m ⟨7, a, b, n⟩ s.toList = tailL ⟨7, a, b, n⟩ s.toList (s.extract (s.size - 2) s.size).toList ((s.extract (s.size - 2) s.size).extract 1 2 ++ (s.extract (s.size - 2) s.size).extract 0 1).toList) := by
      show _ = _
      have h9 : 2 ≤ s.toList.length := by rw [← HLEN.out]; omega
      have eD : (s.extract (s.size - 2) s.size).toList = s.toList.drop (s.toList.length - 2) := by rw [list_extract, HLEN.out, List.take_of_length_le (by rw [List.length_drop]; omega)]
      rw [beh_swap (by rfl) h9, list_append, (two_parts _ _ eD (by rw [List.length_drop]; omega)).1, (two_parts _ _ eD (by rw [List.length_drop]; omega)).2, eD]
     have HX := Lib.hid hx
     go_wp2_with fail
     go_quiet (fail)
     go_wp2_with fail
     go_meet
     exact ⟨⟨_, rfl⟩, _, _, rfl, rfl, by rw [HX.out]; omega, parts_size _, HB⟩
 case rest =>
  obtain ⟨⟨nd, rfl⟩, pv, qv, rfl, rfl, z3, z4, HB⟩ := hcut
  have i0 := ((Upd.refl [] w1).drewN nd).cell i0 (by simp)
  have g1 := ((Upd.refl [] w1).drewN nd).cell g1 (by simp)
  have g6 := ((Upd.refl [] w1).drewN nd).cell g6 (by simp)
  have HU1 := Lib.hid (HU1.out.drewN nd)
  generalize w1.drewN nd = w1 at i0 g1 g6 HU1 ⊢
  by_cases c1 : s.size < pv.size
  ·have d1 : decide ((s.size : Int) < (pv.size : Int)) = true := decide_eq_true (by omega)
   have HR : Hid (behL p m ⟨op, a, b, n⟩ s.toList = .error 108) := by
    show _ = _
    rw [HB.out]
    unfold tailL
    rw [if_pos (by rw [← HLEN.out, ← size_list]; exact c1)]
   go_wp2_with fail
   go_quiet (fail)
   go_wp2_with fail
   go_ret2
   exact ⟨ret_step HR.out (stepV_err E 7).symm, HU1.out.drewN _⟩
  ·have d1 : decide ((s.size : Int) < (pv.size : Int)) = false := decide_eq_false (by omega)
   have HSF := Lib.hid (Tryd.strings_HasSuffix s pv w1 (by omega))
   rw [suffix_drop s pv (by omega)] at HSF
   by_cases c2 : s.toList.drop (s.toList.length - pv.toList.length) = pv.toList
   ·rw [decide_eq_true c2] at HSF
    obtain ⟨t, ht⟩ : ∃ t, t = s.toList.take (s.toList.length - pv.toList.length) ++ qv.toList := ⟨_, rfl⟩
    have HB2 : Hid (behL p m ⟨op, a, b, n⟩ s.toList = outL ⟨op, a, b, n⟩ t) := by
     show _ = _
     rw [HB.out, ht]
     unfold tailL
     rw [if_neg (by rw [← HLEN.out, ← size_list]; exact c1), if_neg (by simpa using c2)]
    have hcat : s.extract 0 (s.size - pv.size) ++ qv = bs t := by
     apply bs_eq
     rw [list_append, list_extract, ht, HLEN.out, size_list pv]
     rfl
    have HCAT := Lib.hid hcat
    have HTS := Lib.hid (bs_size t)
    have HTL := Lib.hid (bs_list t)
    clear c2 ht hcat HB
    generalize bs t = tv at HCAT HTS HTL
    go_upto_region 19 with (refine HSF.out.mono ?_; rintro e w' ⟨rfl, hw⟩; rw [hw]; clear hw)
    go_cut [15] (fun v wx => v = .string tv ∧ w1 = wx)
    case first =>
     go_wp2_with fail
     go_meet
     exact ⟨by rw [← HCAT.out], rfl⟩
    case rest =>
     obtain ⟨rfl, rfl⟩ := hcut
     by_cases c3 : 12 < t.length
     ·have d3 : decide ((12 : Int) < (tv.size : Int)) = true := decide_eq_true (by rw [HTS.out]; omega)
      have HR : Hid (behL p m ⟨op, a, b, n⟩ s.toList = .error 108) := by show _ = _; rw [HB2.out]; unfold outL; rw [if_pos (.inl c3)]
      go_wp2_with fail
      go_quiet (fail)
      go_wp2_with fail
      go_ret2
      exact ⟨ret_step HR.out (stepV_err E 7).symm, HU1.out.drewN _⟩
     ·have d3 : decide ((12 : Int) < (tv.size : Int)) = false := decide_eq_false (by rw [HTS.out]; omega)
      by_cases c4 : op = 33
      ·by_cases c5 : t = []
       ·have d4 : tv.toList.isEmpty = true := by rw [HTL.out, c5]; rfl
        have HR : Hid (behL p m ⟨op, a, b, n⟩ s.toList = .ok t) := by show _ = _; rw [HB2.out]; unfold outL; rw [if_neg (by simp [c5])]
        have HTV : Hid (tv = bs t) := by show _ = _; rw [← HTL.out, bs_of]
        clear c5
        subst c4
        go_wp2_with fail
        go_ret2
        exact ⟨ret_step HR.out (by rw [HTV.out]; rfl), HU1.out⟩
       ·have d4 : tv.toList.isEmpty = false := by rw [HTL.out]; cases t with | nil => exact absurd rfl c5 | cons _ _ => rfl
        have HR : Hid (behL p m ⟨op, a, b, n⟩ s.toList = .error 108) := by show _ = _; rw [HB2.out]; unfold outL; rw [if_pos (.inr ⟨c4, c5⟩)]
        clear c5
        subst c4
        go_wp2_with fail
        go_quiet (fail)
        go_wp2_with fail
        go_ret2
        exact ⟨ret_step HR.out (stepV_err E 7).symm, HU1.out.drewN _⟩
      ·have d4 : (op == 33) = false := by rw [beq_eq_false_iff_ne]; exact c4
       have HR : Hid (behL p m ⟨op, a, b, n⟩ s.toList = .ok t) := by show _ = _; rw [HB2.out]; unfold outL; rw [if_neg (by simp [c4, c3])]
       have HTV : Hid (tv = bs t) := by show _ = _; rw [← HTL.out, bs_of]
       clear c4
       go_wp2_with fail
       go_ret2
       exact ⟨ret_step HR.out (by rw [HTV.out]; rfl), HU1.out⟩
   ·rw [decide_eq_false c2] at HSF
    have HR : Hid (behL p m ⟨op, a, b, n⟩ s.toList = .error 102) := by
     show _ = _
     rw [HB.out]
     unfold tailL
     rw [if_neg (by rw [← HLEN.out, ← size_list]; exact c1), if_pos c2]
    clear c2
    go_wp2_with fail
    refine HSF.out.mono ?_
    rintro e w' ⟨rfl, hw⟩
    rw [hw]
    clear hw
    go_wp2_with fail
    go_quiet (fail)
    go_wp2_with fail
    go_ret2
    exact ⟨ret_step HR.out (stepV_err E 1).symm, HU1.out.drewN _⟩
end Go.Proofs.YtojobkhidlfeoaaDoor

/-! What verify.look makes and turns in memory. -/
namespace Go.Proofs.YtojobkhidlfeoaaDoor
open Go.RowKit

/-- Texts as cells. -/
def scells (xs : List (List UInt8)) : Array Value := (xs.map fun l => Value.string (bs l)).toArray
theorem scells_get (xs : List (List UInt8)) (i : Nat) (h : i < xs.length) : (scells xs)[i]? = some (.string (bs (xs.getD i []))) := by simp [scells, h]
theorem scells_set (xs : List (List UInt8)) (i : Nat) (v : List UInt8) : (scells xs).setIfInBounds i (.string (bs v)) = scells (xs.set i v) := by simp [scells, List.map_set]

theorem Tryd.infoStr : (Tryd.prog.info? 9).map (fun i => (i.zero, i.size, i.bytes)) = some (some (.string ⟨#[]⟩), 1, 16) := by kernel_rfl
theorem make_strs (w : World) (m : Nat) (h : m ≤ 1000000) : (Instr.makeSlice 65 (.int .i64 (m : Int)) (.int .i64 (m : Int))).run Tryd.prog w = .ok (.slice (some ⟨w.heap.size, 0, none⟩) m m) (w.alloc (.cells (scells (List.replicate m [])) 9)) := by
 obtain ⟨i0, hi, hz0, hz1, hz2⟩ := info_parts Tryd.infoStr
 have hmk := run_make (P := Tryd.prog) w 65 9 i0 (.string ⟨#[]⟩) Tryd.underlying65 hi hz0 .i64 .i64 (m : Int) (m : Int) (by omega) (by omega) (by rw [hz2]; omega) (by omega)
 rw [hz1, Nat.mul_one] at hmk
 have e : madeCells (Value.string ⟨#[]⟩).cells m = scells (List.replicate m []) := by
  unfold madeCells scells
  apply Array.ext_getElem?
  intro i
  by_cases h : i < m
  ·simp [h, Value.cells, Nat.mod_one, bs]
  ·simp [h]
 simpa [e] using hmk

/-- What is known of a method, in memory: its two rows. -/
structure LkAt (w : World) (gs gb : Nat) (s : Lk) : Prop where
 stk : w.heap[gs]? = some (.cells (scells s.stk) 9)
 seen : w.heap[gb]? = some (.cells (bcells s.seen) 4)
theorem LkAt.upd {w w' : World} {gs gb : Nat} {s : Lk} {T : List Nat} (h : LkAt w gs gb s) (hu : Upd T w w') (h1 : gs ∉ T) (h2 : gb ∉ T) : LkAt w' gs gb s := ⟨hu.heap h.stk h1, hu.heap h.seen h2⟩

/-- What look answers. -/
def lookV (E : Nat → Addr) (w' : World) (B : Nat) (v : Value) (n : Nat) (r : Except (Int × Nat) Lk) : Prop := match r with
 | .ok s => ∃ gs gb, v = .tuple #[.agg #[.slice (some ⟨gs, 0, none⟩) n n, .slice (some ⟨gb, 0, none⟩) n n, .int .i64 s.most], .int .i64 0, .nilIface] ∧ LkAt w' gs gb s ∧ B ≤ gs ∧ B ≤ gb ∧ gs < w'.heap.size ∧ gb < w'.heap.size
 | .error (c, pc) => v = .tuple #[.agg #[.slice none 0 0, .slice none 0 0, .int .i64 0], .int .i64 pc, errC E c]

/-- The rows and the box that look makes. -/
def LookPre (n : Nat) (w wx : World) (v : Value) : Prop := ∃ xb gs gb, v = .pointer (some ⟨xb, 0, none⟩) ∧
 wx.heap[xb]? = some (.cells #[.slice (some ⟨gs, 0, none⟩) n n, .slice (some ⟨gb, 0, none⟩) n n, .int .i64 0] 68) ∧
 wx.heap[gs]? = some (.cells (scells (List.replicate n [])) 9) ∧ wx.heap[gb]? = some (.cells (bcells (List.replicate n false)) 4) ∧
 (w.heap.size ≤ xb ∧ w.heap.size ≤ gs ∧ w.heap.size ≤ gb ∧ xb ≠ gs ∧ xb ≠ gb ∧ gs ≠ gb) ∧ Upd [] w wx

theorem alloc_get2 (w : World) (o : Obj) (k : Nat) : (w.alloc o).heap[k]? = if k = w.heap.size then some o else w.heap[k]? := by
 show (w.heap.push o)[k]? = _
 rw [Array.getElem?_push]
theorem alloc3 (w : World) (a b c : Obj) : (((w.alloc a).alloc b).alloc c).drew.heap[w.heap.size]? = some a ∧ (((w.alloc a).alloc b).alloc c).drew.heap[w.heap.size + 1]? = some b ∧ (((w.alloc a).alloc b).alloc c).drew.heap[w.heap.size + 1 + 1]? = some c := by
 refine ⟨?_, ?_, ?_⟩
 ·show (((w.alloc a).alloc b).alloc c).heap[w.heap.size]? = _
  rw [alloc_get2, alloc_get2, alloc_get2]
  simp only [World.size_alloc]
  rw [if_neg (by omega), if_neg (by omega), if_pos trivial]
 ·show (((w.alloc a).alloc b).alloc c).heap[w.heap.size + 1]? = _
  rw [alloc_get2, alloc_get2]
  simp only [World.size_alloc]
  rw [if_neg (by omega), if_pos trivial]
 ·show (((w.alloc a).alloc b).alloc c).heap[w.heap.size + 1 + 1]? = _
  rw [alloc_get2]
  simp only [World.size_alloc]
  rw [if_pos trivial]
theorem upd3 (w : World) (a b c : Obj) : Upd [] w (((w.alloc a).alloc b).alloc c).drew := ((((Upd.refl [] w).alloc a).alloc b).alloc c).drew

/-- How many places are open, by the row in memory. -/
def opn : Value → Bool
 | .bool true => false
 | _ => true
def openN (w : World) (b : Nat) : Nat := match w.heap[b]? with
 | some (.cells c _ _) => c.toList.countP opn
 | _ => 0
theorem opn_count : ∀ xs : List Bool, (xs.map Value.bool).countP opn + xs.count true = xs.length
 | [] => rfl
 | a :: t => by
  have ih := opn_count t
  cases a
  ·rw [List.map_cons, List.countP_cons_of_pos (by rfl), List.count_cons_of_ne (by decide), List.length_cons]; omega
  ·rw [List.map_cons, List.countP_cons_of_neg (by decide), List.count_cons_self, List.length_cons]; omega
theorem openN_of {w : World} {b : Nat} {xs : List Bool} {t : TypeId} (h : w.heap[b]? = some (.cells (bcells xs) t)) : openN w b = xs.length - xs.count true := by
 unfold openN
 rw [h]
 show List.countP _ (xs.map Value.bool) = _
 have := opn_count xs
 omega

theorem errC_iface (E : Nat → Addr) (c : Int) (h : c ≠ 0) : errC E c = .iface 175 (.pointer (some (E (c - 101).toNat))) := by
 unfold errC sErr
 rw [if_neg h]
theorem beh_code {p : Prg} {m : Meth} {x : Ins} {s : List UInt8} {c : Int} (h : behL p m x s = .error c) : c = 102 ∨ c = 108 := by
 revert h
 unfold behL
 simp only
 have out : ∀ u : List UInt8, (if 12 < u.length ∨ x.op = 33 ∧ u ≠ [] then (.error 108 : Except Int (List UInt8)) else .ok u) = .error c → c = 102 ∨ c = 108 := by
  intro u hu
  split at hu
  ·injection hu with e; exact .inr e.symm
  ·cases hu
 refine ite_inv ?_ (ite_inv ?_ (ite_inv ?_ ?_))
 ·exact ite_inv (fun e => by injection e with e; exact .inr e.symm) (out _)
 ·exact ite_inv (fun e => by injection e with e; exact .inr e.symm) (out _)
 ·exact ite_inv (fun e => by injection e with e; exact .inr e.symm) (out _)
 ·split
  ·exact ite_inv (fun e => by injection e with e; exact .inr e.symm) (ite_inv (fun e => by injection e with e; exact .inl e.symm) (out _))
  ·exact out _

/-- In the midst of look: the boxes, the rows. -/
structure LookIn (w wr : World) (cv mv kv : Value) (m : Meth) (n xb gs gb db : Nat) (s : Lk) : Prop where
 hpb : wr.heap[w.heap.size]? = some (.cells #[cv, mv] 36)
 hmb : wr.heap[w.heap.size + 1]? = some (.cells #[.string m.params, .string m.locals, .string m.ret, kv] 32)
 hrb : wr.heap[w.heap.size + 1 + 1]? = some (.cells #[.slice none 0 0, .slice none 0 0, .int .i64 0] 68)
 hxb : wr.heap[xb]? = some (.cells #[.slice (some ⟨gs, 0, none⟩) n n, .slice (some ⟨gb, 0, none⟩) n n, .int .i64 s.most] 68)
 hgs : wr.heap[gs]? = some (.cells (scells s.stk) 9)
 hgb : wr.heap[gb]? = some (.cells (bcells s.seen) 4)
 hdb : wr.heap[db]? = some (.cells (bcells s.done) 4)
 upd : Upd [] w wr
 ge : w.heap.size + 3 ≤ xb ∧ w.heap.size + 3 ≤ gs ∧ w.heap.size + 3 ≤ gb ∧ w.heap.size + 3 ≤ db
 ne : xb ≠ gs ∧ xb ≠ gb ∧ xb ≠ db ∧ gs ≠ gb ∧ gs ≠ db ∧ gb ≠ db
theorem LookIn.same {w wr w' : World} {cv mv kv : Value} {m : Meth} {n xb gs gb db : Nat} {s : Lk} (h : LookIn w wr cv mv kv m n xb gs gb db s) (hu : Upd [] wr w') : LookIn w w' cv mv kv m n xb gs gb db s :=
 ⟨hu.heap h.hpb (by simp), hu.heap h.hmb (by simp), hu.heap h.hrb (by simp), hu.heap h.hxb (by simp), hu.heap h.hgs (by simp), hu.heap h.hgb (by simp), hu.heap h.hdb (by simp), h.upd.trans hu, h.ge, h.ne⟩
/-- A place is marked as done. -/
theorem LookIn.done_ {w wr : World} {cv mv kv : Value} {m : Meth} {n xb gs gb db : Nat} {s : Lk} (h : LookIn w wr cv mv kv m n xb gs gb db s) (pc : Nat) :
  LookIn w (wr.setCell ⟨db, pc, none⟩ (.bool true)) cv mv kv m n xb gs gb db { s with done := s.done.set pc true } := by
 have hu : Upd [db] wr (wr.setCell ⟨db, pc, none⟩ (.bool true)) := (Upd.refl _ _).setCell (.inl (by simp)) _
 have hge := h.ge
 have hne := h.ne
 refine ⟨hu.heap h.hpb (by simp; omega), hu.heap h.hmb (by simp; omega), hu.heap h.hrb (by simp; omega), hu.heap h.hxb (by simp; omega), hu.heap h.hgs (by simp; omega), hu.heap h.hgb (by simp; omega), ?_, h.upd.trans' hu (fun i hi hl => by simp at hi; omega), h.ge, h.ne⟩
 rw [heap_setCell h.hdb, bcells_set]
/-- The height is noted. -/
theorem LookIn.most_ {w wr : World} {cv mv kv : Value} {m : Meth} {n xb gs gb db : Nat} {s : Lk} (h : LookIn w wr cv mv kv m n xb gs gb db s) (k : Nat) (v : Int) (hv : v = (k : Int)) :
  LookIn w (wr.setCell ⟨xb, 2, none⟩ (.int .i64 v)) cv mv kv m n xb gs gb db { s with most := k } := by
 subst hv
 have hu : Upd [xb] wr (wr.setCell ⟨xb, 2, none⟩ (.int .i64 (k : Int))) := (Upd.refl _ _).setCell (.inl (by simp)) _
 have hge := h.ge
 have hne := h.ne
 refine ⟨hu.heap h.hpb (by simp; omega), hu.heap h.hmb (by simp; omega), hu.heap h.hrb (by simp; omega), ?_, hu.heap h.hgs (by simp; omega), hu.heap h.hgb (by simp; omega), hu.heap h.hdb (by simp; omega), h.upd.trans' hu (fun i hi hl => by simp at hi; omega), h.ge, h.ne⟩
 rw [heap_setCell h.hxb]
 simp
/-- A place is seen. -/
theorem LookIn.see {w wr : World} {cv mv kv : Value} {m : Meth} {n xb gs gb db : Nat} {s : Lk} (h : LookIn w wr cv mv kv m n xb gs gb db s) (i : Nat) :
  LookIn w (wr.setCell ⟨gb, i, none⟩ (.bool true)) cv mv kv m n xb gs gb db { s with seen := s.seen.set i true } := by
 have hu : Upd [gb] wr (wr.setCell ⟨gb, i, none⟩ (.bool true)) := (Upd.refl _ _).setCell (.inl (by simp)) _
 have hge := h.ge
 have hne := h.ne
 refine ⟨hu.heap h.hpb (by simp; omega), hu.heap h.hmb (by simp; omega), hu.heap h.hrb (by simp; omega), hu.heap h.hxb (by simp; omega), hu.heap h.hgs (by simp; omega), ?_, hu.heap h.hdb (by simp; omega), h.upd.trans' hu (fun i hi hl => by simp at hi; omega), h.ge, h.ne⟩
 rw [heap_setCell h.hgb, bcells_set]
theorem LookIn.put {w wr : World} {cv mv kv : Value} {m : Meth} {n xb gs gb db : Nat} {s : Lk} (h : LookIn w wr cv mv kv m n xb gs gb db s) (i : Nat) (t : List UInt8) :
  LookIn w (wr.setCell ⟨gs, i, none⟩ (.string (bs t))) cv mv kv m n xb gs gb db { s with stk := s.stk.set i t } := by
 have hu : Upd [gs] wr (wr.setCell ⟨gs, i, none⟩ (.string (bs t))) := (Upd.refl _ _).setCell (.inl (by simp)) _
 have hge := h.ge
 have hne := h.ne
 refine ⟨hu.heap h.hpb (by simp; omega), hu.heap h.hmb (by simp; omega), hu.heap h.hrb (by simp; omega), hu.heap h.hxb (by simp; omega), ?_, hu.heap h.hgb (by simp; omega), hu.heap h.hdb (by simp; omega), h.upd.trans' hu (fun i hi hl => by simp at hi; omega), h.ge, h.ne⟩
 rw [heap_setCell h.hgs, scells_set]

theorem fold_next {f : Lk → Int → Except Int Lk} {nl : List Int} {q : Nat} {s1 sq s' : Lk} (h : (nl.take q).foldlM f s1 = .ok sq) (hq : q < nl.length) (h2 : f sq (nl.getD q 0) = .ok s') : (nl.take (q + 1)).foldlM f s1 = .ok s' := by
 rw [List.take_succ_eq_append_getElem hq, List.foldlM_append, h]
 rw [List.getD_eq_getElem?_getD, List.getElem?_eq_getElem hq] at h2
 show ([nl[q]].foldlM f sq) = _
 rw [List.foldlM_cons]
 show (f sq nl[q] >>= _) = _
 rw [show f sq nl[q] = .ok s' from h2]
 rfl
theorem fold_bad {f : Lk → Int → Except Int Lk} {nl : List Int} {q : Nat} {s1 sq : Lk} {e : Int} (h : (nl.take q).foldlM f s1 = .ok sq) (hq : q < nl.length) (h2 : f sq (nl.getD q 0) = .error e) : nl.foldlM f s1 = .error e := by
 rw [List.getD_eq_getElem?_getD, List.getElem?_eq_getElem hq] at h2
 have e1 : nl = nl.take q ++ nl[q] :: nl.drop (q + 1) := by rw [← List.drop_eq_getElem_cons hq, List.take_append_drop]
 rw [e1, List.foldlM_append, h]
 show ((nl[q] :: nl.drop (q + 1)).foldlM f sq) = _
 rw [List.foldlM_cons, show f sq nl[q] = .error e from h2]
 rfl
theorem ite_prop {α : Type} {c : Prop} [Decidable c] {a b : α} (P : α → Prop) (h1 : P a) (h2 : P b) : P (if c then a else b) := by
 split
 ·exact h1
 ·exact h2
theorem nextL_len (xs : List Ins) (pc : Int) : (nextL xs pc).length ≤ 2 := by
 unfold nextL
 repeat' (refine ite_prop (fun l : List Int => l.length ≤ 2) ?_ ?_)
 all_goals simp
/-- Of a program that may be: where an instruction leads is no place below 0. -/
theorem next_ge {p : Prg} (hok : p.Ok) (k : Nat) (hk : k < p.ms.length) (q : Nat) (hq : q < (p.ms.getD k default).code.length) : ∀ x ∈ nextL (p.ms.getD k default).code q, 0 ≤ x := by
 have h1 := hok.ins k hk q hq
 generalize p.ms.getD k default = m at *
 have hj : (m.code.getD q default).op = 22 ∨ (m.code.getD q default).op = 23 → 0 ≤ (m.code.getD q default).a := by
  intro hop
  revert h1
  unfold insCode
  refine ite_inv (fun h => by omega) (ite_inv (fun h => by omega) (ite_inv (fun h => by omega) (ite_inv (fun h => by omega) (ite_inv (fun h => by omega) ?_))))
  split
  ·intro h; omega
  ·rename_i h5; intro _; omega
 unfold nextL
 rw [Int.toNat_natCast]
 generalize m.code.getD q default = x at hj
 refine ite_prop (fun l : List Int => ∀ y ∈ l, 0 ≤ y) ?_ (by simp)
 by_cases h33 : x.op = 33
 ·rw [if_pos h33]; simp
 rw [if_neg h33]
 by_cases h22 : x.op = 22
 ·rw [if_pos h22]; intro y hy; simp at hy; subst hy; exact hj (.inl h22)
 rw [if_neg h22]
 by_cases h23 : x.op = 23
 ·have := hj (.inr h23)
  rw [if_pos h23]
  repeat' (refine ite_prop (fun l : List Int => ∀ y ∈ l, 0 ≤ y) ?_ ?_)
  all_goals
   intro y hy
   simp at hy
   omega
 ·rw [if_neg h23]; intro y hy; simp at hy; omega
theorem max_form (a b c : Nat) : (if (if a < b then (b : Int) else (a : Int)) < (c : Int) then (c : Int) else if a < b then (b : Int) else (a : Int)) = ((max a (max b c) : Nat) : Int) := by
 split <;> split <;> omega
end Go.Proofs.YtojobkhidlfeoaaDoor
