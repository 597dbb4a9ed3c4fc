/- A range over a string whose iterator is not the heap's last block. verify.Info: Refs. -/
import Derived.Test.YtpmfbhoochogoaaDoorBs
import Derived.Test.YtpmfbhoochogoaaDoorLib
import Derived.Test.YtpmfbhoochogoaaDoorRows
import Derived.Laws.RangeString
import Derived.Test.YtpmfbhoochogoaaDoorAtW
import Derived.Test.YtpmfbhoochogoaaDoorOwnNe
import Derived.Test.YtpmfbhoochogoaaDoorOwnI
import Derived.Test.YtpmfbhoochogoaaDoorInts
/-! A range over a string whose iterator is not the heap's last block. -/
namespace Go.Proofs.YtpmfbhoochogoaaDoor
open Go.RowKit

def iterAt (w : World) (b : Nat) (s : ByteArray) (pos : Nat) : World := { w with heap := w.heap.setIfInBounds b (.stringIter s pos) }
theorem iterAt_heap {w : World} {b : Nat} {s s' : ByteArray} {pos pos' : Nat} (h : w.heap[b]? = some (.stringIter s pos)) : (iterAt w b s' pos').heap[b]? = some (.stringIter s' pos') := by
  show (w.heap.setIfInBounds b (.stringIter s' pos'))[b]? = _
  have hb : b < w.heap.size := by
    rcases Nat.lt_or_ge b w.heap.size with h2 | h2
    · exact h2
    · rw [Array.getElem?_eq_none h2] at h; cases h
  simp [hb]
theorem iterAt_upd (w : World) (b : Nat) (s : ByteArray) (pos : Nat) : Upd [b] w (iterAt w b s pos) := by
  refine ⟨rfl, rfl, rfl, by show w.heap.size ≤ (w.heap.setIfInBounds b _).size; simp, fun k _ hk => ?_⟩
  show (w.heap.setIfInBounds b _)[k]? = _
  rw [Array.getElem?_setIfInBounds_ne]
  rintro rfl
  exact hk (by simp)
theorem next_at (w : World) (b : Nat) (s : ByteArray) (pos : Nat) (ty : TypeId) (hw : w.heap[b]? = some (.stringIter s pos)) (h : pos < s.size) (ha : (s[pos]'h).toNat < 128) :
    (Instr.next (.pointer (some ⟨b, 0, none⟩)) true ty).run Tryd.prog w = .ok (.tuple #[.bool true, .int .i64 pos, .int .i32 (s[pos]'h).toNat]) (iterAt w b s (pos + 1)) := by
  simp only [Instr.next, getObj, setObj, Sem.run_bind, Sem.run, hw, Result.andThen, h, if_true, decode_ascii s pos h ha]
  simp [goInt, iterAt]
theorem next_at_end (w : World) (b : Nat) (s : ByteArray) (pos : Nat) (ty : TypeId) (hw : w.heap[b]? = some (.stringIter s pos)) (h : ¬ pos < s.size) :
    (Instr.next (.pointer (some ⟨b, 0, none⟩)) true ty).run Tryd.prog w = .ok (.tuple #[.bool false]) w := by
  simp [Instr.next, getObj, Sem.run, hw, h]
/-- The places of the letter R, from k on. -/
def refsL : List UInt8 → Nat → List Int
  | [], _ => []
  | c :: l, k => (if c = lR then [(k : Int)] else []) ++ refsL l (k + 1)
theorem refsL_append (a b : List UInt8) (k : Nat) : refsL (a ++ b) k = refsL a k ++ refsL b (k + a.length) := by
  induction a generalizing k with
  | nil => rfl
  | cons c t ih =>
    show _ ++ refsL (t ++ b) (k + 1) = (_ ++ refsL t (k + 1)) ++ _
    rw [ih (k + 1), List.append_assoc]
    congr 3
    simp only [List.length_cons]
    omega
theorem refsL_snoc (a : List UInt8) (c : UInt8) (k : Nat) : refsL (a ++ [c]) k = refsL a k ++ if c = lR then [((k + a.length : Nat) : Int)] else [] := by
  rw [refsL_append]
  congr 1
  show _ ++ refsL [] _ = _
  rw [show refsL [] (k + a.length + 1) = [] from rfl, List.append_nil]

end Go.Proofs.YtpmfbhoochogoaaDoor

/-! verify.Info: Refs. -/
namespace Go.Proofs.YtpmfbhoochogoaaDoor
open Go.RowKit

def iterPos (w : World) (b : Nat) : Nat := match w.heap[b]? with | some (.stringIter _ p) => p | _ => 0
theorem iterPos_of {w : World} {b : Nat} {s : ByteArray} {p : Nat} (h : w.heap[b]? = some (.stringIter s p)) : iterPos w b = p := by unfold iterPos; rw [h]
theorem bs_byte (l : List UInt8) (i : Nat) (h : i < (bs l).size) : (bs l)[i]'h = l.getD i 0 := by
  have hl : i < l.length := by rw [bs_size] at h; exact h
  rw [List.getD_eq_getElem?_getD, List.getElem?_eq_getElem hl]
  rfl

theorem refsL_le : ∀ (l : List UInt8) (k : Nat), (refsL l k).length ≤ l.length
  | [], _ => Nat.le_refl _
  | c :: l, k => by
    have h := refsL_le l (k + 1)
    show ((if c = lR then [(k : Int)] else []) ++ refsL l (k + 1)).length ≤ _
    rw [List.length_append, List.length_cons]
    split <;> simp <;> omega

/-- An answer that has been asked once more, and nothing else of its box. -/
structure InfoAs (w0 w : World) (ib : Nat) (p : Prg) (ss : List Lk) (n : Int) : Prop where
  at_ : InfoAt w ib p ss (n + 1)
  st : InfoStep w0 w ib n
theorem InfoAs.upd {w0 w w' : World} {ib : Nat} {p : Prg} {ss : List Lk} {n : Int} (h : InfoAs w0 w ib p ss n) (hu : Upd [] w w') : InfoAs w0 w' ib p ss n := ⟨h.at_.upd hu, fun cv mv lv hb => hu.heap (h.st cv mv lv hb) (by simp)⟩
/-- Other blocks are written. -/
theorem InfoAs.keep {w0 w w' : World} {ib : Nat} {p : Prg} {ss : List Lk} {n : Int} (h : InfoAs w0 w ib p ss n) (h0 : InfoAt w0 ib p ss n) (hu : Upd [ib] w0 w') {T : List Nat} (ht : Upd T w w') (hT : ib ∉ T) : InfoAt w' ib p ss (n + 1) :=
  h0.later hu (fun cv mv lv hb => ht.heap (h.st cv mv lv hb) hT)
set_option maxRecDepth 100000 in
set_option maxHeartbeats 4000000 in
theorem refs_in2 (ib : Nat) (p : Prg) (ss : List Lk) (n : Int) (k : Nat) (pc : Nat) (w : World) (h : InfoAt w ib p ss n) (hl : ss.length = p.ms.length) (hk : k < p.ms.length) (hc : (p.ms.getD k default).code.length ≤ 1000) (h0 : 0 ≤ n) (h1 : n ≤ 1000000000)
    (hp : pc < (p.ms.getD k default).code.length) (hse : (ss.getD k default).seen.getD pc false = true) (l : List UInt8) (hlk : kindsL (p.ms.getD k default) ++ (ss.getD k default).stk.getD pc [] = l) (hl2 : l.length ≤ 1000) (hasc : ∀ c ∈ l, c.toNat < 128)
    (hz1 : (p.ms.getD k default).params.size ≤ 1000000) (hz2 : (p.ms.getD k default).locals.size ≤ 1000000) :
    Calls Tryd.prog 14 #[.pointer (some ⟨ib, 0, none⟩), .int .i64 k, .int .i64 pc] w fun e w' => ∃ u, e = .returned u ∧ OwnI w' w.heap.size 3 u (refsL l 0) ∧ InfoAs w w' ib p ss n ∧ Upd [ib] w w' := by
  have hibw : ib < w.heap.size := by obtain ⟨_, _, _, hb, _⟩ := h; exact lt_of_heap hb
  obtain ⟨i0, hi0, hz0, hy1, hy2⟩ := info_parts Tryd.infoInt
  have HII := Lib.hid hi0
  have HZ0 := Lib.hid hz0
  have HY1 := Lib.hid hy1
  have HY2 := Lib.hid hy2
  have HIB := Lib.hid hibw
  have HASC := Lib.hid hasc
  have HAT : Hid (atV (ss.getD k default) (p.ms.getD k default).code.length (pc : Int) = .tuple #[.string (bs ((ss.getD k default).stk.getD pc [])), .bool true]) := by
    show _ = _
    unfold atV
    rw [Int.toNat_natCast, if_pos ⟨by omega, by omega, hse⟩]
  have HLK := Lib.hid hlk
  clear hi0 hz0 hy1 hy2 hibw hasc hse hlk
  go_enter Tryd.func14, Tryd.ntmps14
  go_wp2_with fail
  refine (ask_in2 ib p ss n k w h hl hk h0 h1).mono ?_
  rintro e w1 ⟨v, rfl, ⟨gs, gb, kp, kc, rfl, hlk, hi0, hu⟩, hst⟩
  have hi : InfoAs w w1 ib p ss n := ⟨hi0, hst⟩
  clear hi0 hst
  generalize hmg : p.ms.getD k default = m at hlk hc hp hz1 hz2 HAT HLK ⊢
  generalize hsg : ss.getD k default = s at hlk HAT HLK ⊢
  clear hmg hsg h
  have hu2 := ((Upd.refl [] w1).alloc (.cells #[.slice (some ⟨gs, 0, none⟩) m.code.length m.code.length, .slice (some ⟨gb, 0, none⟩) m.code.length m.code.length, .int .i64 s.most] 83)).alloc (.cells #[.string m.params, .string m.locals, .string m.ret, .slice kp m.code.length kc] 39)
  have hA := ((Upd.refl [] _).alloc (.cells #[.string m.params, .string m.locals, .string m.ret, .slice kp m.code.length kc] 39)).heap (heap_alloc_new w1 (.cells #[.slice (some ⟨gs, 0, none⟩) m.code.length m.code.length, .slice (some ⟨gb, 0, none⟩) m.code.length m.code.length, .int .i64 s.most] 83)) (by simp)
  have hB := heap_alloc_new (w1.alloc (.cells #[.slice (some ⟨gs, 0, none⟩) m.code.length m.code.length, .slice (some ⟨gb, 0, none⟩) m.code.length m.code.length, .int .i64 s.most] 83)) (.cells #[.string m.params, .string m.locals, .string m.ret, .slice kp m.code.length kc] 39)
  rw [show (w1.alloc (.cells #[.slice (some ⟨gs, 0, none⟩) m.code.length m.code.length, .slice (some ⟨gb, 0, none⟩) m.code.length m.code.length, .int .i64 s.most] 83)).heap.size = w1.heap.size + 1 by simp] at hB
  have HL := Lib.hid (fun q hq => (⟨hu2.cell (hlk q hq).1 (by simp), hu2.cell (hlk q hq).2 (by simp)⟩ : _ ∧ _))
  have HI := Lib.hid (hi.upd hu2)
  have HU := Lib.hid (hu.trans (hu2.mono (T := [ib]) (by simp)))
  clear hlk hi hu hu2
  go_upto_region 2 with fail
  generalize (w1.alloc (.cells #[.slice (some ⟨gs, 0, none⟩) m.code.length m.code.length, .slice (some ⟨gb, 0, none⟩) m.code.length m.code.length, .int .i64 s.most] 83)).alloc (.cells #[.string m.params, .string m.locals, .string m.ret, .slice kp m.code.length kc] 39) = w2 at HL HI HU hA hB ⊢
  generalize w1.heap.size = B at hA hB ⊢
  have a0 : w2.cell? ⟨B, 0, none⟩ = some (.slice (some ⟨gs, 0, none⟩) m.code.length m.code.length) := by rw [cell_of hA]; rfl
  have a1 : w2.cell? ⟨B, 1, none⟩ = some (.slice (some ⟨gb, 0, none⟩) m.code.length m.code.length) := by rw [cell_of hA]; rfl
  have a2 : w2.cell? ⟨B, 2, none⟩ = some (.int .i64 s.most) := by rw [cell_of hA]; rfl
  have b0 : w2.cell? ⟨B + 1, 0, none⟩ = some (.string m.params) := by rw [cell_of hB]; rfl
  have b1 : w2.cell? ⟨B + 1, 1, none⟩ = some (.string m.locals) := by rw [cell_of hB]; rfl
  have b2 : w2.cell? ⟨B + 1, 2, none⟩ = some (.string m.ret) := by rw [cell_of hB]; rfl
  have b3 : w2.cell? ⟨B + 1, 3, none⟩ = some (.slice kp m.code.length kc) := by rw [cell_of hB]; rfl
  clear hA hB
  go_wp2_with fail
  refine (at_ask gs gb m.code.length _ s pc w2 HL.out hc).mono ?_
  rintro e w3 ⟨rfl, hu3⟩
  rw [HAT.out]
  have b0 := hu3.cell b0 (by simp)
  have b1 := hu3.cell b1 (by simp)
  have b2 := hu3.cell b2 (by simp)
  have b3 := hu3.cell b3 (by simp)
  have HI3 := Lib.hid (HI.out.upd hu3)
  have HU3 := Lib.hid (HU.out.trans (hu3.mono (T := [ib]) (by simp)))
  clear hu3 HI HU a0 a1 a2 HL HAT
  have hadd : bs (kindsL m) ++ bs (s.stk.getD pc []) = bs l := by rw [bs_append, HLK.out]
  have hln : (kindsL m).length + (s.stk.getD pc []).length = l.length := by rw [← HLK.out, List.length_append]
  have htv : (bs (s.stk.getD pc [])).size ≤ 1000 := by rw [bs_size]; omega
  have hkv : (bs (kindsL m)).size ≤ 1000 := by rw [bs_size]; omega
  clear hln
  generalize bs (s.stk.getD pc []) = tv at hadd htv ⊢
  go_wp2_with fail
  refine (kinds_any m (.slice kp m.code.length kc) w3 hz1 hz2).mono ?_
  rintro e w4 ⟨rfl, hu4⟩
  have HI4 := Lib.hid (HI3.out.upd hu4)
  have HU4 := Lib.hid (HU3.out.trans (hu4.mono (T := [ib]) (by simp)))
  generalize bs (kindsL m) = kv at hadd hkv ⊢
  clear hu4 HI3 HU3 b0 b1 b2 b3
  have hu5 : Hid (Upd [] w4 (w4.alloc (.stringIter (bs l) 0))) := (Upd.refl [] w4).alloc _
  have hit : Hid ((w4.alloc (.stringIter (bs l) 0)).heap[w4.heap.size]? = some (.stringIter (bs l) 0)) := heap_alloc_new _ _
  go_wp2_with fail
  clear hadd htv hkv
  go_loopw [11] (fun v wr => ∃ i : Nat, i ≤ l.length ∧ Hid (wr.heap[w4.heap.size]? = some (.stringIter (bs l) i)) ∧ Hid (OwnI wr (w4.heap.size + 1) 3 v (refsL (l.take i) 0)) ∧ Hid (Upd [] w4 wr)) (fun _ wr => l.length - iterPos wr w4.heap.size)
  case atStart => exact ⟨0, by omega, hit, OwnI.nil _ _ _, hu5⟩
  case round =>
    clear hit hu5
    obtain ⟨i, hi, HIT, HX, HU5⟩ := hrel
    obtain ⟨wo, rfl⟩ : ∃ wo : World, wo = wr := ⟨_, rfl⟩
    have hb4 := lt_of_heap HIT.out
    obtain ⟨vp, vc, hv⟩ := HX.out.shape
    have HP0 := Lib.hid (iterPos_of HIT.out)
    by_cases hlt : i < l.length
    · have hsi : i < (bs l).size := by rw [bs_size]; exact hlt
      have hmem : (bs l)[i]'hsi ∈ l := by
        rw [bs_byte, List.getD_eq_getElem?_getD, List.getElem?_eq_getElem hlt]; exact List.getElem_mem hlt
      have hnx := fun ty => next_at wo w4.heap.size (bs l) i ty HIT.out hsi (HASC.out _ hmem)
      have HT : Hid (refsL (l.take (i + 1)) 0 = refsL (l.take i) 0 ++ if (bs l)[i]'hsi = lR then [(i : Int)] else []) := by
        show _ = _
        rw [List.take_succ_eq_append_getElem hlt, refsL_snoc, bs_byte, List.getD_eq_getElem?_getD, List.getElem?_eq_getElem hlt, List.length_take, Nat.min_eq_left hi, Nat.zero_add]
        rfl
      have hut := iterAt_upd wo w4.heap.size (bs l) (i + 1)
      have HIT6 := Lib.hid (iterAt_heap (s' := bs l) (pos' := i + 1) HIT.out)
      generalize iterAt wo w4.heap.size (bs l) (i + 1) = w6 at hnx hut HIT6
      generalize (bs l)[i]'hsi = c at hnx HT
      have HX6 : Hid (OwnI w6 (w4.heap.size + 1) 3 _ (refsL (l.take i) 0)) := row_upd HX.out hut (fun q hq hm => by
        have h1 := (World.ownsRow.lt HX.out q hq).1
        simp at hm
        omega)
      have HU6 : Hid (Upd [] w4 w6) := HU5.out.trans' hut (fun q hq hl => by simp at hq; omega)
      clear hut hmem hsi HX HU5 HIT hb4
      generalize hL : (refsL (l.take i) 0).length = L at hv
      subst hv
      have HL := Lib.hid hL
      clear hL
      by_cases hc82 : c = lR
      · have HT2 := HT.out
        rw [if_pos hc82] at HT2
        have HT3 := Lib.hid HT2
        have hcn : (c.toNat : Int) = 82 := by rw [hc82]; rfl
        rw [hcn] at hnx
        clear HT HT2 hc82 hcn
        go_wp2_with (at_builtin; refine stop_here ?_)
        refine Hid.mk ?_
        have hrow : (w6.alloc (.cells #[.int .i64 (i : Int)] 3)).ownsRow (w4.heap.size + 1) 3 1 (.slice vp L vc) L ((refsL (l.take i) 0).map (Value.int .i64)) := by
          have h := row_upd HX6.out ((Upd.refl [] w6).alloc (.cells #[.int .i64 (i : Int)] 3)) (by simp)
          rwa [HL.out] at h
        have hsz := lt_of_heap HIT6.out
        have hLl : L ≤ l.length := by rw [← HL.out]; exact Nat.le_trans (refsL_le _ _) (by rw [List.length_take]; omega)
        refine (wpList_append_src rfl _ _ 40 rfl (w4.heap.size + 1) 3 i0 _ 1 8 Tryd.underlying40 HII.out HZ0.out HY1.out HY2.out rfl (by decide) _ _ _ rfl hrow _ 1 ([(i : Int)].map (Value.int .i64)) rfl (.inr ⟨_, _, rfl, fun j u hu => by
          rw [Addr.add_lit, Nat.zero_add, cell_of (heap_alloc_new w6 _)]
          show (([(i : Int)].map (Value.int .i64)).toArray)[j]? = some u
          rw [List.getElem?_toArray]
          exact hu⟩) rfl (oneI _) (by unfold maxLen; omega) (by omega) (by simp; omega) ?_)
        intro v' w7 hown hgr _
        have hown2 : w7.ownsRow (w4.heap.size + 1) 3 1 v' ((refsL (l.take i) 0).length + 1) ((refsL (l.take i) 0).map (Value.int .i64) ++ [.int .i64 (i : Int)]) := by rw [HL.out]; exact hown
        obtain ⟨hP, hW, hB⟩ := HX6.out.push hown2 hgr
        rw [← HT3.out] at hP
        have HP := Lib.hid hP
        have HIT7 := Lib.hid (hW.heap HIT6.out (fun h => by have := (hB _ h).1; omega))
        have HU7 := Lib.hid (HU6.out.trans' hW (fun q hq hl => by have := (hB q hq).1; omega))
        clear hP hW hB hown hown2 hgr hrow hsz hnx hLl
        go_wp2_with fail
        go_roundw
        case rel => exact ⟨i + 1, by omega, HIT7.out, HP.out, HU7.out⟩
        case measure => rw [iterPos_of HIT7.out, HP0.out]; omega
      · have HT2 := HT.out
        rw [if_neg hc82, List.append_nil] at HT2
        have HT3 := Lib.hid HT2
        have hcn : ((c.toNat : Int) == 82) = false := by
          rw [beq_eq_false_iff_ne]
          intro h
          apply hc82
          apply UInt8.toNat_inj.1
          show c.toNat = 82
          omega
        clear HT HT2 hc82
        go_wp2_with fail
        go_roundw
        case rel => exact ⟨i + 1, by omega, HIT6.out, by rw [HT3.out]; exact HX6.out, HU6.out⟩
        case measure => rw [iterPos_of HIT6.out, HP0.out]; omega
    · obtain rfl : i = l.length := by omega
      have hnx := fun ty => next_at_end wo w4.heap.size (bs l) l.length ty HIT.out (by rw [bs_size]; omega)
      have hx := HX.out
      rw [List.take_length] at hx
      have HXX := Lib.hid (show OwnI wo w.heap.size 3 _ (refsL l 0) from row_base hx (by have := HU4.out.size; omega))
      clear hx
      clear HX HIT HP0 hb4
      generalize hL : (refsL (l.take l.length) 0).length = L at hv
      subst hv
      clear hL
      go_wp2_with fail
      go_ret
      exact ⟨_, rfl, HXX.out, HI4.out.upd HU5.out, HU4.out.trans (HU5.out.mono (T := [ib]) (by simp))⟩
theorem refs_in (ib : Nat) (p : Prg) (ss : List Lk) (n : Int) (k : Nat) (pc : Nat) (w : World) (h : InfoAt w ib p ss n) (hl : ss.length = p.ms.length) (hk : k < p.ms.length) (hc : (p.ms.getD k default).code.length ≤ 1000) (h0 : 0 ≤ n) (h1 : n ≤ 1000000000)
    (hp : pc < (p.ms.getD k default).code.length) (hse : (ss.getD k default).seen.getD pc false = true) (l : List UInt8) (hlk : kindsL (p.ms.getD k default) ++ (ss.getD k default).stk.getD pc [] = l) (hl2 : l.length ≤ 1000) (hasc : ∀ c ∈ l, c.toNat < 128)
    (hz1 : (p.ms.getD k default).params.size ≤ 1000000) (hz2 : (p.ms.getD k default).locals.size ≤ 1000000) :
    Calls Tryd.prog 14 #[.pointer (some ⟨ib, 0, none⟩), .int .i64 k, .int .i64 pc] w fun e w' => ∃ u, e = .returned u ∧ OwnI w' w.heap.size 3 u (refsL l 0) ∧ InfoAt w' ib p ss (n + 1) ∧ Upd [ib] w w' :=
  (refs_in2 ib p ss n k pc w h hl hk hc h0 h1 hp hse l hlk hl2 hasc hz1 hz2).mono (fun _ _ ⟨u, h1, h2, h3, h4⟩ => ⟨u, h1, h2, h3.at_, h4⟩)

set_option maxRecDepth 100000 in
set_option maxHeartbeats 4000000 in
theorem refs_out (ib : Nat) (p : Prg) (ss : List Lk) (n : Int) (k : Nat) (pc : Int) (w : World) (h : InfoAt w ib p ss n) (hl : ss.length = p.ms.length) (hk : k < p.ms.length) (hc : (p.ms.getD k default).code.length ≤ 1000) (h0 : 0 ≤ n) (h1 : n ≤ 1000000000)
    (hp : ¬ (0 ≤ pc ∧ pc < ((p.ms.getD k default).code.length : Int) ∧ (ss.getD k default).seen.getD pc.toNat false = true)) :
    Calls Tryd.prog 14 #[.pointer (some ⟨ib, 0, none⟩), .int .i64 k, .int .i64 pc] w fun e w' => e = .returned (.slice none 0 0) ∧ InfoAt w' ib p ss (n + 1) ∧ Upd [ib] w w' := by
  have HAT : Hid (atV (ss.getD k default) (p.ms.getD k default).code.length pc = .tuple #[.string (bs []), .bool false]) := by
    show _ = _
    unfold atV
    rw [if_neg hp]
  clear hp
  go_enter Tryd.func14, Tryd.ntmps14
  go_wp2_with fail
  refine (ask_in ib p ss n k w h hl hk h0 h1).mono ?_
  rintro e w1 ⟨v, rfl, gs, gb, kp, kc, rfl, hlk, hi, hu⟩
  generalize hmg : p.ms.getD k default = m at hlk hc HAT ⊢
  generalize hsg : ss.getD k default = s at hlk HAT ⊢
  clear hmg hsg h
  have hu2 := ((Upd.refl [] w1).alloc (.cells #[.slice (some ⟨gs, 0, none⟩) m.code.length m.code.length, .slice (some ⟨gb, 0, none⟩) m.code.length m.code.length, .int .i64 s.most] 83)).alloc (.cells #[.string m.params, .string m.locals, .string m.ret, .slice kp m.code.length kc] 39)
  have hA := ((Upd.refl [] _).alloc (.cells #[.string m.params, .string m.locals, .string m.ret, .slice kp m.code.length kc] 39)).heap (heap_alloc_new w1 (.cells #[.slice (some ⟨gs, 0, none⟩) m.code.length m.code.length, .slice (some ⟨gb, 0, none⟩) m.code.length m.code.length, .int .i64 s.most] 83)) (by simp)
  have hB := heap_alloc_new (w1.alloc (.cells #[.slice (some ⟨gs, 0, none⟩) m.code.length m.code.length, .slice (some ⟨gb, 0, none⟩) m.code.length m.code.length, .int .i64 s.most] 83)) (.cells #[.string m.params, .string m.locals, .string m.ret, .slice kp m.code.length kc] 39)
  rw [show (w1.alloc (.cells #[.slice (some ⟨gs, 0, none⟩) m.code.length m.code.length, .slice (some ⟨gb, 0, none⟩) m.code.length m.code.length, .int .i64 s.most] 83)).heap.size = w1.heap.size + 1 by simp] at hB
  have HL := Lib.hid (fun q hq => (⟨hu2.cell (hlk q hq).1 (by simp), hu2.cell (hlk q hq).2 (by simp)⟩ : _ ∧ _))
  have HI := Lib.hid (hi.upd hu2)
  have HU := Lib.hid (hu.trans (hu2.mono (T := [ib]) (by simp)))
  clear hlk hi hu hu2
  go_upto_region 2 with fail
  generalize (w1.alloc (.cells #[.slice (some ⟨gs, 0, none⟩) m.code.length m.code.length, .slice (some ⟨gb, 0, none⟩) m.code.length m.code.length, .int .i64 s.most] 83)).alloc (.cells #[.string m.params, .string m.locals, .string m.ret, .slice kp m.code.length kc] 39) = w2 at HL HI HU hA hB ⊢
  generalize w1.heap.size = B at hA hB ⊢
  have a0 : w2.cell? ⟨B, 0, none⟩ = some (.slice (some ⟨gs, 0, none⟩) m.code.length m.code.length) := by rw [cell_of hA]; rfl
  have a1 : w2.cell? ⟨B, 1, none⟩ = some (.slice (some ⟨gb, 0, none⟩) m.code.length m.code.length) := by rw [cell_of hA]; rfl
  have a2 : w2.cell? ⟨B, 2, none⟩ = some (.int .i64 s.most) := by rw [cell_of hA]; rfl
  have b0 : w2.cell? ⟨B + 1, 0, none⟩ = some (.string m.params) := by rw [cell_of hB]; rfl
  have b1 : w2.cell? ⟨B + 1, 1, none⟩ = some (.string m.locals) := by rw [cell_of hB]; rfl
  have b2 : w2.cell? ⟨B + 1, 2, none⟩ = some (.string m.ret) := by rw [cell_of hB]; rfl
  have b3 : w2.cell? ⟨B + 1, 3, none⟩ = some (.slice kp m.code.length kc) := by rw [cell_of hB]; rfl
  clear hA hB
  go_wp2_with fail
  refine (at_ask gs gb m.code.length _ s pc w2 HL.out hc).mono ?_
  rintro e w3 ⟨rfl, hu3⟩
  rw [HAT.out]
  have HI3 := Lib.hid (HI.out.upd hu3)
  have HU3 := Lib.hid (HU.out.trans (hu3.mono (T := [ib]) (by simp)))
  clear hu3 HI HU a0 a1 a2 b0 b1 b2 b3 HL HAT
  go_wp2_with fail
  go_ret
  exact ⟨rfl, HI3.out, HU3.out⟩
end Go.Proofs.YtpmfbhoochogoaaDoor
