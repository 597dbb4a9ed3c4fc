/- bits.Set.Clone: a set that is the same. bits.Set.Add, whatever the number. bits.Set.Drop, whatever the number. bits.Set.Join: what is in another set is put in. -/
import Derived.Test.YtpmfbhoochogoaaGreatDoorEach
import Derived.Test.YtpmfbhoochogoaaGreatDoorOwnI
import Derived.Deep.RegionHeld3
import Derived.Test.YtpmfbhoochogoaaGreatDoorBits
import Derived.RangeFuncNested
/-! bits.Set.Clone: a set that is the same. -/
namespace Go.Proofs.YtpmfbhoochogoaaGreatDoor
open Go.RowKit

theorem oneU (ws : List Nat) : ∀ u ∈ ws.map (fun (x : Nat) => Value.int .u64 (x : Int)), u.oneCell' = true := by
  intro u hu
  obtain ⟨x, _, rfl⟩ := List.mem_map.1 hu
  rfl

set_option maxRecDepth 100000 in
set_option maxHeartbeats 1000000 in
theorem cloneU_any (b g n : Nat) (ws : List Nat) (w : World) (h : SetAt w b g n ws) (hn : n ≤ 65536) :
    Calls Tryz.prog 140 #[.slice (some ⟨g, 0, none⟩) ws.length ws.length] w fun e w' => ∃ a g' c, e = .returned (.slice a ws.length c) ∧ (0 < ws.length → a = some ⟨g', 0, none⟩) ∧ w.heap.size ≤ g' ∧ (∀ i, i < ws.length → w'.cell? ⟨g', i, none⟩ = some (.int .u64 ((ws.getD i 0 : Nat) : Int))) ∧ g' < w'.heap.size ∧ Upd [] w w' := by
  obtain ⟨i0, hi, hz0, hz1, hz2⟩ := info_parts Tryz.infoU
  have HI := Lib.hid hi
  have HZ0 := Lib.hid hz0
  have HZ1 := Lib.hid hz1
  have HZ2 := Lib.hid hz2
  have hl : ws.length ≤ 1024 := by have := h.2.2.2.1; omega
  have HX := Lib.hid h
  clear hi hz0 hz1 hz2 h
  have hq : ∀ W, (binOp BinOp.eql 173 (.slice (some ⟨g, 0, none⟩) ws.length ws.length) (.slice none 0 0)).run Tryz.prog W = .ok (.bool false) W := fun _ => by kernel_rfl
  go_enter Tryz.func140, Tryz.ntmps140
  go_wp2_with (at_builtin; refine stop_here ?_)
  refine Hid.mk ?_
  have hrow : (w.alloc (.cells #[] 172)).ownsRow w.heap.size 172 1 (.slice (some ⟨w.heap.size, 0, none⟩) 0 0) 0 [] :=
    ⟨by simp, .inr ⟨w.heap.size, 0, #[], rfl, Nat.le_refl _, heap_alloc_new _ _, by omega, by simp [maxLen], by simp, by simp⟩⟩
  have hsrc : SrcV (w.alloc (.cells #[] 172)) (.slice (some ⟨g, 0, none⟩) ws.length ws.length) ws.length (ws.map (fun (x : Nat) => Value.int .u64 (x : Int))) := by
    refine .inr ⟨_, _, rfl, fun j u hu => ?_⟩
    rw [List.getElem?_map] at hu
    have hj : j < ws.length := by
      refine Decidable.byContradiction fun hc => ?_
      rw [List.getElem?_eq_none (by omega)] at hu
      cases hu
    rw [List.getElem?_eq_getElem hj] at hu
    injection hu with hu
    subst hu
    have h1 := HX.out.word j hj
    rw [List.getD_eq_getElem?_getD, List.getElem?_eq_getElem hj] at h1
    rw [Addr.add_lit, Nat.zero_add]
    exact ((Upd.refl [] w).alloc _).cell h1 (by simp)
  refine (wpList_append_src rfl _ _ 173 rfl w.heap.size 172 i0 (.int .u64 0) 1 8 Tryz.underlying173 HI.out HZ0.out HZ1.out HZ2.out rfl (by decide) _ _ _ rfl hrow _ ws.length (ws.map (fun (x : Nat) => Value.int .u64 (x : Int))) rfl hsrc (by simp) (oneU _) (by unfold maxLen; omega) (by omega) (by simp) ?_)
  intro v' w6 hown hgr _
  have hu := ((Upd.refl [] w).alloc (.cells #[] 172)).grown hgr (fun q hq => .inr (by injection hq with hq; exact Nat.le_of_eq hq))
  rw [Nat.zero_add, List.nil_append] at hown
  have HU := Lib.hid hu
  have HO := Lib.hid hown
  clear hu hrow hsrc hq
  obtain ⟨a, g', c, rfl, ha, hg1, hg2, hcell⟩ : ∃ a g' c, v' = .slice a ws.length c ∧ (0 < ws.length → a = some ⟨g', 0, none⟩) ∧ w.heap.size ≤ g' ∧ g' < w6.heap.size ∧ ∀ i, i < ws.length → w6.cell? ⟨g', i, none⟩ = some (.int .u64 ((ws.getD i 0 : Nat) : Int)) := by
    rcases HO.out.2 with ⟨h1, h2⟩ | ⟨g', c, cur, h1, h3, h4, h5, h6, h7, h8⟩
    · exact ⟨none, w.heap.size, 0, by rw [h1, h2], fun h => by omega, Nat.le_refl _, by
        have := hgr.size
        rw [World.size_alloc] at this; omega, fun i hi => by omega⟩
    · refine ⟨_, g', c, h1, fun _ => rfl, h3, lt_of_heap h4, fun i hi => ?_⟩
      have h9 := World.ownsRow.cells HO.out (g := g') (by rw [h1]; rfl) i (.int .u64 ((ws.getD i 0 : Nat) : Int)) (by
        rw [List.getElem?_map, List.getElem?_eq_getElem hi, List.getD_eq_getElem?_getD, List.getElem?_eq_getElem hi]; rfl)
      rwa [Addr.add_lit, Nat.zero_add] at h9
  have HC := Lib.hid hcell
  have HA := Lib.hid ha
  clear hcell hown hgr ha
  go_wp2_with fail
  go_ret
  exact ⟨a, g', c, rfl, HA.out, hg1, HC.out, hg2, HU.out⟩

set_option maxRecDepth 100000 in
set_option maxHeartbeats 1000000 in
theorem bclone_any (b g n : Nat) (ws : List Nat) (w : World) (h : SetAt w b g n ws) (hn : n ≤ 65536) :
    Calls Tryz.prog 114 #[.pointer (some ⟨b, 0, none⟩)] w fun e w' => ∃ b' g' c, e = .returned (.pointer (some ⟨b', 0, none⟩)) ∧ SetC w' b' g' n c ws ∧ w.heap.size ≤ b' ∧ w.heap.size ≤ g' ∧ b' < w'.heap.size ∧ g' < w'.heap.size ∧ Upd [] w w' := by
  have c0 := h.c0
  have c1 := h.c1
  have c0d := (Upd.refl [] w).drew.cell c0 (by simp)
  have c1d := (Upd.refl [] w).drew.cell c1 (by simp)
  have HD := Lib.hid (h.upd (Upd.refl [] w).drew (by simp) (by simp))
  have HCL := Lib.hid (cloneU_any b g n ws w.drew HD.out hn)
  have H := Lib.hid h
  clear h
  go_enter Tryz.func114, Tryz.ntmps114
  go_wp2_with fail
  go_region_held3 (fun w' => w'.cell? ⟨b, 0, none⟩ = some (.int .i64 n) ∧ w'.cell? ⟨b, 1, none⟩ = some (.slice (some ⟨g, 0, none⟩) ws.length ws.length))
    (first | exact ⟨c0d, c1d⟩ | exact ⟨hk0, hk1⟩ | exact ⟨c0, c1⟩ | exact ⟨hs0 _, hs1 _⟩)
    ((go_at_call 140; refine HCL.out.mono ?_; rintro e w4 ⟨a4, g', c, rfl, ha4, hg1, hcells, hg2, hu4⟩; have hk0 := hu4.cell c0d (by simp); have hk1 := hu4.cell c1d (by simp); have hs0 := (fun o => ((Upd.refl [] w4).alloc o).cell hk0 (by simp)); have hs1 := (fun o => ((Upd.refl [] w4).alloc o).cell hk1 (by simp)); have HCC := Lib.hid hcells; have HA4 := Lib.hid ha4; clear hcells ha4))
  go_wp2_with fail
  go_ret
  have hn4 := heap_alloc_new w4 (.cells #[.int .i64 n, .slice a4 ws.length c] 175)
  have hz := hu4.size
  have hz2 : (w4.alloc (.cells #[.int .i64 n, .slice a4 ws.length c] 175)).heap.size = w4.heap.size + 1 := by simp
  have hz3 : w.drew.heap.size = w.heap.size := rfl
  refine ⟨w4.heap.size, g', c, rfl, ⟨⟨a4, hn4, HA4.out⟩, fun i hi => ((Upd.refl [] w4).alloc _).cell (HCC.out i hi) (by simp), H.out.2.2.1, H.out.2.2.2.1, H.out.2.2.2.2.1, H.out.2.2.2.2.2⟩, by omega, by omega, by omega, by omega, ((Upd.refl [] w).drew.trans hu4).alloc _⟩
end Go.Proofs.YtpmfbhoochogoaaGreatDoor

/-! bits.Set.Add, whatever the number. -/
namespace Go.Proofs.YtpmfbhoochogoaaGreatDoor
open Go.RowKit

/-- Put a number into a set, whatever it is. -/
theorem add_any (b g n : Nat) (i : Int) (ws : List Nat) (w : World) (h : SetAt w b g n ws) :
    Calls Tryz.prog 115 #[.pointer (some ⟨b, 0, none⟩), .int .i64 i] w fun e w' => ∃ (r : Bool) (ws' : List Nat), e = .returned (.bool r) ∧ SetAt w' b g n ws' ∧ (∀ p, bhas ws' p = (bhas ws p || (decide (p < n) && decide (i = (p : Int))))) ∧ Upd [g] w w' := by
  by_cases h0 : i < 0 ∨ (n : Int) ≤ i
  · refine (add_out b g n i ws w h h0).mono ?_
    rintro e w' ⟨rfl, rfl⟩
    refine ⟨_, ws, rfl, h, fun p => ?_, Upd.refl _ _⟩
    by_cases hp : p < n
    · rw [decide_eq_false (by omega : ¬ i = (p : Int))]; simp
    · simp [hp]
  · obtain ⟨k, rfl⟩ := Int.eq_ofNat_of_zero_le (show 0 ≤ i by omega)
    have hk : k < n := by omega
    cases hh : bhas ws k
    · refine (add_new b g n k ws w h hk hh).mono ?_
      rintro e w' ⟨rfl, h1, h2⟩
      refine ⟨_, _, rfl, h1, fun p => ?_, h2⟩
      rw [badd_get ws k p (by have := h.2.2.2.1; omega)]
      by_cases e : k = p
      · subst e; simp [hk]
      · rw [decide_eq_false e, decide_eq_false (by omega : ¬ (k : Int) = (p : Int))]; simp
    · refine (add_old b g n k ws w h hk hh).mono ?_
      rintro e w' ⟨rfl, rfl⟩
      refine ⟨_, ws, rfl, h, fun p => ?_, Upd.refl _ _⟩
      by_cases e : k = p
      · subst e; simp [hh]
      · rw [decide_eq_false (by omega : ¬ (k : Int) = (p : Int))]; simp

end Go.Proofs.YtpmfbhoochogoaaGreatDoor

/-! bits.Set.Drop, whatever the number. -/
namespace Go.Proofs.YtpmfbhoochogoaaGreatDoor
open Go.RowKit

/-- A number taken out (it is in). -/
def bdrop (ws : List Nat) (i : Nat) : List Nat := ws.set (i / 64) (ws.getD (i / 64) 0 ^^^ 2 ^ (i % 64))
theorem bdrop_get (ws : List Nat) (i j : Nat) (h : bhas ws i = true) : bhas (bdrop ws i) j = (bhas ws j && !decide (i = j)) := by
  have hi : i / 64 < ws.length := by
    refine Decidable.byContradiction fun hc => ?_
    unfold bhas at h
    rw [List.getD_eq_getElem?_getD, List.getElem?_eq_none (by omega)] at h
    simp at h
  unfold bhas at h
  unfold bhas bdrop
  simp only [List.getD_eq_getElem?_getD, List.getElem?_set] at h ⊢
  by_cases hq : i / 64 = j / 64
  · rw [if_pos hq, if_pos hi]
    simp only [Option.getD_some, Nat.testBit_xor, Nat.testBit_two_pow]
    by_cases he : i = j
    · subst he; rw [h]; simp
    · have h2 : ¬ i % 64 = j % 64 := by omega
      rw [hq]; simp [he, h2]
  · rw [if_neg hq]
    have : ¬ i = j := fun e => hq (by rw [e])
    simp [this]
theorem andnot_bit (x k : Nat) (h : x < 2 ^ 64) (hk : k < 64) (hb : x.testBit k = true) : bits BinOp.andNot IntKind.u64 (x : Int) (IntKind.u64.wrap (2 ^ k)) = ((x ^^^ 2 ^ k : Nat) : Int) := by
  have h2 : 2 ^ k < 18446744073709551616 := by
    have := Nat.pow_lt_pow_right (a := 2) (by omega) hk
    simpa using this
  have e1 : IntKind.u64.wrap (2 ^ k) = ((2 ^ k : Nat) : Int) := by
    rw [show ((2 : Int) ^ k) = ((2 ^ k : Nat) : Int) by simp]
    rw [IntKind.wrap_u64]
    generalize 2 ^ k = y at h2 ⊢
    omega
  rw [e1]
  show IntKind.u64.wrap ((BitVec.ofInt 64 (x : Int) &&& ~~~ BitVec.ofInt 64 ((2 ^ k : Nat) : Int)).toNat : Int) = _
  have e3 : (BitVec.ofInt 64 (x : Int) &&& ~~~ BitVec.ofInt 64 ((2 ^ k : Nat) : Int)).toNat = x ^^^ 2 ^ k := by
    have e4 : BitVec.ofInt 64 (x : Int) &&& ~~~ BitVec.ofInt 64 ((2 ^ k : Nat) : Int) = BitVec.ofNat 64 (x ^^^ 2 ^ k) := by
      apply BitVec.eq_of_getLsbD_eq
      intro i hi
      rw [BitVec.getLsbD_and, BitVec.getLsbD_not, BitVec.ofInt_natCast, BitVec.ofInt_natCast, BitVec.getLsbD_ofNat, BitVec.getLsbD_ofNat, BitVec.getLsbD_ofNat, Nat.testBit_xor, Nat.testBit_two_pow]
      by_cases hki : k = i
      · subst hki; simp [hi, hb]
      · simp [hi, hki]
    rw [e4, BitVec.toNat_ofNat]
    exact Nat.mod_eq_of_lt (Nat.xor_lt_two_pow h (by simpa using h2))
  rw [e3, IntKind.wrap_u64]
  have := Nat.xor_lt_two_pow (n := 64) h (by simpa using h2)
  omega
theorem SetAt.unset {w : World} {b g n : Nat} {ws : List Nat} (h : SetAt w b g n ws) (i : Nat) (hb : bhas ws i = true) :
    SetAt (w.setCell ⟨g, i / 64, none⟩ (.int .u64 ((ws.getD (i / 64) 0 ^^^ 2 ^ (i % 64) : Nat) : Int))) b g n (bdrop ws i) := by
  have hne : b ≠ g := by
    rintro rfl
    have := h.1.symm.trans h.2.1
    simp at this
  have hl := h.2.2.2.1
  have hlen : (bdrop ws i).length = ws.length := by simp [bdrop]
  refine ⟨?_, ?_, h.2.2.1, by rw [hlen]; exact hl, ?_, ?_⟩
  · rw [Below.heap_setCell _ _ _ _ hne, hlen]; exact h.1
  · rw [heap_setCell h.2.1, ucells_set]; rfl
  · intro j hj
    rw [hlen] at hj
    unfold bdrop
    rw [List.getD_eq_getElem?_getD, List.getElem?_set]
    split
    · split
      · exact Nat.xor_lt_two_pow (h.2.2.2.2.1 _ (by omega)) (Nat.pow_lt_pow_right (by omega) (Nat.mod_lt _ (by omega)))
      · simp
    · have := h.2.2.2.2.1 j hj
      rwa [List.getD_eq_getElem?_getD] at this
  · intro j hj
    rw [bdrop_get _ _ _ hb, Bool.and_eq_true] at hj
    exact h.2.2.2.2.2 j hj.1

set_option maxHeartbeats 400000 in
theorem drop_yes (b g n i : Nat) (ws : List Nat) (w : World) (h : SetAt w b g n ws) (hyes : bhas ws i = true) :
    Calls Tryz.prog 139 #[.pointer (some ⟨b, 0, none⟩), .int .i64 i] w fun e w' => e = .returned (.bool true) ∧ SetAt w' b g n (bdrop ws i) ∧ Upd [g] w w' := by
  have h1 := h.2.2.2.2.2 i hyes
  have hc := h.c1
  have hl := h.2.2.2.1
  have hn := h.2.2.1
  have hx := h.word (i / 64) (by omega)
  have hf := h.free (i / 64)
  have HX64 := Lib.hid (h.2.2.2.2.1 (i / 64) (by omega))
  have HL := Lib.hid hl
  clear hl
  have hll : i / 64 < ws.length := by have := HL.out; omega
  have HB := Lib.hid (show (ws.getD (i / 64) 0).testBit (i % 64) = true from hyes)
  have HS := Lib.hid (h.unset i hyes)
  have hq : i % 64 < 64 := Nat.mod_lt _ (by omega)
  generalize hxx : ws.getD (i / 64) 0 = x at hx HX64 HB
  have HXX := Lib.hid hxx
  clear hxx
  have H := Lib.hid h
  have HY := Lib.hid hyes
  clear h hyes
  go_enter Tryz.func139, Tryz.ntmps139
  go_wp2_with fail
  refine (has_in _ _ _ _ _ _ H.out (by omega)).mono ?_
  rintro e w' ⟨rfl, rfl⟩
  rw [HY.out]
  go_wp2_with fail
  go_region
  rw [andnot_bit x (i % 64) HX64.out hq HB.out]
  have HS2 : Hid (SetAt (w.setCell ⟨g, i / 64, none⟩ (.int .u64 ((x ^^^ 2 ^ (i % 64) : Nat) : Int))).drew b g n (bdrop ws i)) := by
    have := HS.out
    rw [HXX.out] at this
    exact this
  have HU2 : Hid (Upd [g] w (w.setCell ⟨g, i / 64, none⟩ (.int .u64 ((x ^^^ 2 ^ (i % 64) : Nat) : Int))).drew) := ((Upd.refl _ _).setCell (by simp) _).drew
  generalize (w.setCell ⟨g, i / 64, none⟩ (.int .u64 ((x ^^^ 2 ^ (i % 64) : Nat) : Int))).drew = w2 at *
  go_wp2_with fail
  go_ret
  exact ⟨rfl, HS2.out, HU2.out⟩

/-- Whether a number, whatever it is, is in. -/
def bhasI (ws : List Nat) (i : Int) : Bool := decide (0 ≤ i) && bhas ws i.toNat
theorem hasI_any (b g n : Nat) (i : Int) (ws : List Nat) (w : World) (h : SetAt w b g n ws) :
    Calls Tryz.prog 70 #[.pointer (some ⟨b, 0, none⟩), .int .i64 i] w fun e w' => e = .returned (.bool (bhasI ws i)) ∧ w = w' := by
  by_cases h0 : i < 0 ∨ (n : Int) ≤ i
  · have e : bhasI ws i = false := by
      unfold bhasI
      rw [Bool.and_eq_false_iff]
      rcases h0 with h0 | h0
      · left; simp; omega
      · right
        cases hb : bhas ws i.toNat with
        | false => rfl
        | true => have := h.2.2.2.2.2 _ hb; omega
    rw [e]
    exact has_out b g n i ws w h h0
  · obtain ⟨k, rfl⟩ := Int.eq_ofNat_of_zero_le (show 0 ≤ i by omega)
    have e : bhasI ws (k : Int) = bhas ws k := by unfold bhasI; simp
    rw [e]
    exact has_in b g n k ws w h (by omega)
set_option maxHeartbeats 400000 in
/-- Take a number out of a set, whatever it is. -/
theorem drop_any (b g n : Nat) (i : Int) (ws : List Nat) (w : World) (h : SetAt w b g n ws) :
    Calls Tryz.prog 139 #[.pointer (some ⟨b, 0, none⟩), .int .i64 i] w fun e w' => ∃ (ws' : List Nat), e = .returned (.bool (bhasI ws i)) ∧ SetAt w' b g n ws' ∧ (∀ p, bhas ws' p = (bhas ws p && !decide (i = (p : Int)))) ∧ Upd [g] w w' := by
  cases hb : bhasI ws i with
  | true =>
    unfold bhasI at hb
    rw [Bool.and_eq_true, decide_eq_true_eq] at hb
    obtain ⟨k, rfl⟩ := Int.eq_ofNat_of_zero_le hb.1
    rw [Int.toNat_natCast] at hb
    refine (drop_yes b g n k ws w h hb.2).mono ?_
    rintro e w' ⟨rfl, h1, h2⟩
    refine ⟨_, rfl, h1, fun p => ?_, h2⟩
    rw [bdrop_get _ _ _ hb.2]
    congr 2
    rw [decide_eq_decide]; omega
  | false =>
    have HB := Lib.hid hb
    have hh := hasI_any b g n i ws w h
    rw [hb] at hh
    have H := Lib.hid h
    have HH := Lib.hid hh
    clear h hb hh
    go_enter Tryz.func139, Tryz.ntmps139
    go_wp2_with fail
    refine HH.out.mono ?_
    rintro e w' ⟨rfl, rfl⟩
    go_wp2_with fail
    go_ret
    refine ⟨ws, rfl, H.out, fun p => ?_, Upd.refl _ _⟩
    by_cases e : i = (p : Int)
    · subst e
      have := HB.out
      unfold bhasI at this
      simp at this
      rw [this]; rfl
    · simp [e]
end Go.Proofs.YtpmfbhoochogoaaGreatDoor

/-! bits.Set.Join: what is in another set is put in. -/
namespace Go.Proofs.YtpmfbhoochogoaaGreatDoor
open Go.RowKit Go.Shelf

attribute [local go_sem] Oper.semAt_some

theorem add_r (b g n p : Nat) (ws : List Nat) (w : World) (h : SetAt w b g n ws) :
    Calls Tryz.prog 115 #[.pointer (some ⟨b, 0, none⟩), .int .i64 p] w fun e w' => ∃ ws', e = .returned (.bool (decide (p < n) && !bhas ws p)) ∧ SetAt w' b g n ws' ∧ (∀ q, bhas ws' q = (bhas ws q || (decide (p < n) && decide (p = q)))) ∧ Upd [g] w w' := by
  by_cases h0 : n ≤ p
  · refine (add_out b g n p ws w h (.inr (by omega))).mono ?_
    rintro e w' ⟨rfl, rfl⟩
    refine ⟨ws, by rw [decide_eq_false (by omega), Bool.false_and], h, fun q => ?_, Upd.refl _ _⟩
    rw [decide_eq_false (by omega : ¬ p < n), Bool.false_and, Bool.or_false]
  · have hk : p < n := by omega
    cases hh : bhas ws p
    · refine (add_new b g n p ws w h hk hh).mono ?_
      rintro e w' ⟨rfl, h1, h2⟩
      refine ⟨_, by simp [hk], h1, fun q => ?_, h2⟩
      rw [badd_get ws p q (by have := h.2.2.2.1; omega)]
      simp [hk]
    · refine (add_old b g n p ws w h hk hh).mono ?_
      rintro e w' ⟨rfl, rfl⟩
      refine ⟨ws, by simp, h, fun q => ?_, Upd.refl _ _⟩
      by_cases e : p = q
      · subst e; simp [hh]
      · simp [e]

theorem keepsFrom_upd {S : List Nat} {W W' : World} {B : Nat} (h : Upd S W W') (hS : ∀ k ∈ S, k < B) : KeepsFrom B W W' :=
  ⟨h.size, fun k o hB hk _ => (h.block k (lt_of_heap hk) (fun hm => by have := hS k hm; omega)).trans hk⟩
/-- The state of the join: those so far are in. -/
structure JoinSt (w0 : World) (ab b g n : Nat) (ws : List Nat) (pre : List Nat) (W : World) : Prop where
  st : ∃ ws' av, SetAt W b g n ws' ∧ (∀ p, bhas ws' p = (bhas ws p || (decide (p < n) && decide (p ∈ pre)))) ∧ (av = true → ∃ p, bhas ws' p = true ∧ bhas ws p = false) ∧ (av = false → ∀ p, bhas ws' p = bhas ws p) ∧ W.heap[ab]? = some (.cells #[.bool av] 4)
  up : Upd [g, ab] w0 W

set_option maxRecDepth 100000 in
set_option maxHeartbeats 2000000 in
theorem bjoin_any (b g n b2 g2 n2 : Nat) (ws vs : List Nat) (w : World) (h : SetAt w b g n ws) (h2 : SetAt w b2 g2 n2 vs) (hT : TzAt w) (hgt : g ≠ 10) (hn : n2 ≤ 65536) :
    Calls Tryz.prog 93 #[.pointer (some ⟨b, 0, none⟩), .pointer (some ⟨b2, 0, none⟩)] w fun e w' => ∃ av ws', e = .returned (.bool av) ∧ SetAt w' b g n ws' ∧ (∀ p, bhas ws' p = (bhas ws p || (decide (p < n) && bhas vs p))) ∧ (av = true → ∃ p, bhas ws' p = true ∧ bhas ws p = false) ∧ (av = false → ∀ p, bhas ws' p = bhas ws p) ∧ Upd [g] w w' := by
  have htl := hT.lt
  have hgl := lt_of_heap h.2.1
  have hbl := lt_of_heap h.1
  have hU2 := ((Upd.refl [] w).alloc (.cells #[.pointer (some ⟨b, 0, none⟩)] 148)).alloc (.cells #[.bool false] 4)
  have hS0 := heap_alloc_new w (.cells #[.pointer (some ⟨b, 0, none⟩)] 148)
  have hS := ((Upd.refl [] (w.alloc (.cells #[.pointer (some ⟨b, 0, none⟩)] 148))).alloc (.cells #[.bool false] 4)).heap hS0 (by simp)
  have hA := heap_alloc_new (w.alloc (.cells #[.pointer (some ⟨b, 0, none⟩)] 148)) (.cells #[.bool false] 4)
  rw [World.size_alloc] at hA
  have HCL := Lib.hid (bclone_any b2 g2 n2 vs _ (h2.upd hU2 (by simp) (by simp)) hn)
  refine (callsIn_wide (n := 5)).1 ?_
  refine callsIn_of_wp_marks Tryz.func93 rfl trivial ?_ rfl
  simp only [Tryz.ntmps93, List.size_toArray, List.length_cons, List.length_nil, Nat.reduceAdd, Nat.reduceSub, Array.replicate_succ, Array.replicate_zero, List.push_toArray, List.append_toArray, List.nil_append, List.cons_append]
  gi_wp2
  refine ⟨trivial, (callsIn_wide.2 HCL.out).mono ?_⟩
  rintro e w1 ⟨cb, cg, cc, rfl, hset1, hcb1, hcg1, hcb2, hcg2, hu1⟩
  gi_wp2
  refine ⟨trivial, (callsIn_wide.2 (each_any _ _)).mono ?_⟩
  rintro e w' ⟨rfl, rfl⟩
  gi_wp2
  have hz0 : ((w.alloc (.cells #[.pointer (some ⟨b, 0, none⟩)] 148)).alloc (.cells #[.bool false] 4)).heap.size = w.heap.size + 2 := by simp
  have hz1 := hu1.size
  have hU3 := hu1.trans ((Upd.refl [] w1).alloc (.cells #[.pointer (some ⟨cb, 0, none⟩)] 148))
  have hU := hU2.trans hU3
  have hS2 := hU3.heap hS (by simp)
  have hA2 := hU3.heap hA (by simp)
  have hE := heap_alloc_new w1 (.cells #[.pointer (some ⟨cb, 0, none⟩)] 148)
  have hset2 := hset1.upd ((Upd.refl [] w1).alloc (.cells #[.pointer (some ⟨cb, 0, none⟩)] 148)) (by simp) (by simp)
  have hzE : (w1.alloc (.cells #[.pointer (some ⟨cb, 0, none⟩)] 148)).heap.size = w1.heap.size + 1 := by simp
  have hT2 := hT.upd hU (by simp)
  have hs2 := h.upd hU (by simp) (by simp)
  have HU := Lib.hid hU
  clear hset1 HCL hU2 hU3 hS hA hS0 hu1
  generalize w1.alloc (.cells #[.pointer (some ⟨cb, 0, none⟩)] 148) = w2 at *
  generalize w1.heap.size = eb at *
  refine wpIn_rangeFunc_ownG rfl (by omega) (gf := 112) (lb := #[.pointer (some ⟨eb, 0, none⟩)]) rfl trivial (enters_of Tryz.func112 (by kernel_rfl) rfl)
    (each_stopsC 4 (by omega) eb cb cg n2 cc vs _ (cell_of hE 0) hset2 hT2) (fun a b => a.trans b) (keepB_b (by omega) (by omega)) (Below.refl _ _) (fun _ => rfl)
    (fun (pre : List (Inb vs)) W => JoinSt w2 (w.heap.size + 1) b g n ws (pre.map Subtype.val) W)
    (fun _ _ _ => False) ?own
    (fun _ _ _ _ _ hs _ _ => hs)
    ⟨⟨ws, false, hs2, fun p => by simp, fun h => by simp at h, fun _ _ => rfl, hA2⟩, Upd.refl _ _⟩
    (fun x : Inb vs => { tmps := #[.pointer (some ⟨b, 0, none⟩), .pointer (some ⟨b2, 0, none⟩), .pointer (some ⟨w.heap.size, 0, none⟩), undef, .bool false, .pointer (some ⟨w.heap.size + 1, 0, none⟩), .int .i64 (x.1 : Int), .pointer (some ⟨b2, 0, none⟩), .pointer (some ⟨cb, 0, none⟩),
      .func (.func 112) #[] #[.pointer (some ⟨eb, 0, none⟩)], .int .i64 (x.1 : Int), undef, undef, undef, undef, undef, undef, undef], defers := [] }) ?assign ?body ?done ?stop
  case own =>
    rintro pre W W' row ⟨⟨ws', av, h1, h3, h4, h5, h6⟩, h7⟩ hg hr
    have hu : Upd row.toList W W' := (Upd.refl _ W).grown hg (fun k hk => .inl (by simp [hk]))
    have hlt : ∀ k, k < w2.heap.size → k ∉ row.toList := fun k hk hm => by
      have := (hr k (Option.mem_toList.1 hm)).1; omega
    exact ⟨⟨ws', av, h1.upd hu (hlt b (by omega)) (hlt g (by omega)), h3, h4, h5, hu.heap h6 (hlt _ (by omega))⟩, h7.trans' hu (fun q hq hl => absurd hq (hlt q hl))⟩
  case assign =>
    intro l x W K hK
    gi_wp2
    exact hK
  case body =>
    rintro l pre x W ⟨⟨ws', av, h1, h3, h4, h5, h6⟩, h7⟩ hlt2
    have hcs := h7.cell (cell_of hS2 0) (by simp; omega)
    have HAD := Lib.hid (add_r b g n x.1 ws' W h1)
    have H3 := Lib.hid h3
    have H4 := Lib.hid h4
    have H5 := Lib.hid h5
    have H6 := Lib.hid h6
    have H7 := Lib.hid h7
    have hWs := h7.size
    clear h3 h4 h5 h6 h7
    gi_wp2
    refine ⟨trivial, (callsIn_wide.2 HAD.out).mono ?_⟩
    rintro e W1 ⟨ws2, rfl, h8, h9, hu⟩
    have hav : W1.heap[w.heap.size + 1]? = some (.cells #[.bool av] 4) := hu.heap H6.out (by simp; omega)
    have hac := cell_of hav 0
    have haf := froz_of hav 0
    have hx := x.2
    have H8 := Lib.hid h8
    have H9 := Lib.hid h9
    have HUW := Lib.hid hu
    have hmap : (pre ++ [x]).map Subtype.val = pre.map Subtype.val ++ [x.1] := by simp
    have HMAP := Lib.hid hmap
    have HKEEP : ∀ v, Hid (KeepsFrom w2.heap.size W (W1.setCell ⟨w.heap.size + 1, 0, none⟩ v) ∧ KeepB cg W (W1.setCell ⟨w.heap.size + 1, 0, none⟩ v) ∧ Upd [g, w.heap.size + 1] W (W1.setCell ⟨w.heap.size + 1, 0, none⟩ v) ∧ SetAt (W1.setCell ⟨w.heap.size + 1, 0, none⟩ v) b g n ws2) := by
      intro v
      have hu3 : Upd [g, w.heap.size + 1] W (W1.setCell ⟨w.heap.size + 1, 0, none⟩ v) := (hu.mono (T := [g, w.heap.size + 1]) (by intro i hi _; simp at hi ⊢; exact .inl hi)).setCell (.inl (by simp)) v
      refine ⟨keepsFrom_upd hu3 (fun k hk => by simp at hk; omega), KeepB.of_upd hu3 (by omega) (by simp; omega) (by omega) (by simp only [List.mem_cons, List.not_mem_nil, or_false, not_or]; exact ⟨fun e => hgt e.symm, by omega⟩), hu3, ?_⟩
      exact h8.upd ((Upd.refl [w.heap.size + 1] W1).setCell (.inl (by simp)) v) (by simp; omega) (by simp; omega)
    clear h8 h9 hu hmap
    cases hb : (decide (x.1 < n) && !bhas ws' x.1) with
    | true =>
      have HB := Lib.hid hb
      clear hb
      gi_wp2
      obtain ⟨k1, k2, k3, k4⟩ := (HKEEP (.bool true)).out
      have hb := HB.out
      rw [Bool.and_eq_true, decide_eq_true_eq, Bool.not_eq_true'] at hb
      refine ⟨k1, k2, ⟨ws2, true, k4, fun p => ?_, fun _ => ⟨x.1, ?_, ?_⟩, fun hf => (by cases hf), heap_setCell hav 0 _⟩, H7.out.trans k3⟩
      · rw [H9.out, H3.out, HMAP.out]
        by_cases e : x.1 = p
        · subst e; simp [hb.1]
        · have e2 : ¬ p = x.1 := fun h => e h.symm
          simp [e, e2]
      · rw [H9.out]; simp [hb.1]
      · have h0 := H3.out x.1
        rw [hb.2] at h0
        cases hw : bhas ws x.1 with
        | false => rfl
        | true => rw [hw] at h0; simp at h0
    | false =>
      have HB := Lib.hid hb
      clear hb
      gi_wp2
      obtain ⟨k1, k2, k3, k4⟩ := (HKEEP (.bool av)).out
      have hb := HB.out
      have hsame : ∀ p, bhas ws2 p = bhas ws' p := fun p => by
        rw [H9.out]
        by_cases e : x.1 = p
        · subst e
          cases hxx : decide (x.1 < n) with
          | false => simp
          | true =>
            rw [hxx, Bool.true_and, Bool.not_eq_false'] at hb
            simp [hb]
        · simp [e]
      refine ⟨k1, k2, ⟨ws2, av, k4, fun p => ?_, fun ha => ?_, fun ha p => by rw [hsame, H5.out ha], heap_setCell hav 0 _⟩, H7.out.trans k3⟩
      · rw [hsame, H3.out, HMAP.out]
        by_cases e : p = x.1
        · subst e
          have h0 := hsame x.1
          have h1 := H3.out x.1
          cases hxx : decide (x.1 < n) with
          | false => simp
          | true =>
            rw [hxx, Bool.true_and, Bool.not_eq_false'] at hb
            rw [hb, hxx] at h1
            rw [Bool.true_and] at h1 ⊢
            rw [← h1]
            simp
        · simp [e]
      · obtain ⟨p, q1, q2⟩ := H4.out ha
        exact ⟨p, by rw [hsame]; exact q1, q2⟩
  case done =>
    rintro D ys W hD hys ⟨⟨ws', av, h1, h3, h4, h5, h6⟩, h7⟩ hK
    rw [hys] at h3
    have hac := cell_of h6 0
    have H3 := Lib.hid h3
    have H4 := Lib.hid h4
    have H5 := Lib.hid h5
    have H7 := Lib.hid h7
    have hW := h7.size
    clear h3 h4 h5 h7
    gi_wp2
    refine ⟨by simp, .inl ⟨_, _, rfl, run_takeDeferred hK, ?_⟩⟩
    have hpo : ∀ o, Upd [D] W (W.putObj D o) := fun o => (Upd.refl [D] W).grown (grownBy_putObj' W D o) (fun k hk => .inl (by injection hk with hk; simp [hk]))
    have hfin : ∀ o, Upd [g] w (W.putObj D o) := fun o => (HU.out.mono (T := [g]) (by simp)).trans' (H7.out.trans' (hpo o) (fun q hq hl => by simp at hq; omega)) (fun q hq hl => by
      simp at hq ⊢
      omega)
    exact ⟨_, results_tmp rfl _ _ _, av, ws', rfl, h1.upd (hpo _) (by simp; omega) (by simp; omega), fun p => by rw [H3.out]; congr 2; rw [Bool.eq_iff_iff]; simp [mem_blist], H4.out, H5.out, hfin _⟩
  case stop =>
    rintro D c pre W _ _ h _
    exact h.elim
end Go.Proofs.YtpmfbhoochogoaaGreatDoor
