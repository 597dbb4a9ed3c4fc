/- The document's table of what is live, in memory; overdriveref7.Locals, Info.Reached. The letters of stacks are plain ones. No program in sight. overdriveref7.Info.Live: the document's table of what is live. live.Map.Refs; a map of no method. overdriveref7.Info.Stack, Refs, Behind. -/
import Derived.Test.YtpmfbhoochogoaaGreatDoorLivC
import Derived.Test.YtpmfbhoochogoaaGreatDoorWInfo
import Derived.Test.YtpmfbhoochogoaaGreatDoorOwnNe
import Derived.Test.YtpmfbhoochogoaaGreatDoorVerL5
import Derived.Test.YtpmfbhoochogoaaGreatDoorMayL
import Derived.Test.YtpmfbhoochogoaaGreatDoorLetL
import Derived.Test.YtpmfbhoochogoaaGreatDoorREff
import Derived.Test.YtpmfbhoochogoaaGreatDoorRNext
import Derived.Test.YtpmfbhoochogoaaGreatDoorVerL11
import Derived.Test.YtpmfbhoochogoaaGreatDoorLookA
import Derived.Test.YtpmfbhoochogoaaGreatDoorRefsW
import Derived.Test.YtpmfbhoochogoaaGreatDoorSorted2
import Derived.Deep.RegionHeld3
/-! The document's table of what is live, in memory; overdriveref7.Locals, Info.Reached. -/
/-! The document's table of what is live, in memory; overdriveref7.Locals, Info.Reached. -/
namespace Go.Proofs.YtpmfbhoochogoaaGreatDoor
open Go.RowKit

theorem Tryz.infoBRow : (Tryz.prog.info? 79).map (fun i => (i.zero, i.size, i.bytes)) = some (some (.slice none 0 0), 1, 24) := by kernel_rfl
theorem madeCells_nilL (n : Nat) : madeCells (Value.slice none 0 0).cells n = (List.replicate n (Value.slice none 0 0)).toArray := by
  unfold madeCells
  apply Array.ext_getElem?
  intro i
  by_cases h : i < n
  · simp [h, Value.cells, Nat.mod_one]
  · simp [h]
theorem make_brows (w : World) (m : Nat) (h : m ≤ 1000000) : (Instr.makeSlice 88 (.int .i64 (m : Int)) (.int .i64 (m : Int))).run Tryz.prog w = .ok (.slice (some ⟨w.heap.size, 0, none⟩) m m) (w.alloc (.cells (List.replicate m (Value.slice none 0 0)).toArray 79)) := by
  obtain ⟨i0, hi, hz0, hz1, hz2⟩ := info_parts Tryz.infoBRow
  have hmk := run_make (P := Tryz.prog) w 88 79 i0 (.slice none 0 0) Tryz.underlying88 hi hz0 .i64 .i64 (m : Int) (m : Int) (by omega) (by omega) (by rw [hz2]; omega) (by omega)
  rw [hz1, Nat.mul_one] at hmk
  simpa [madeCells_nilL] using hmk

/-- A row of the table. -/
def rowB (c : Nat) (f : Nat → Bool) : List Bool := (List.range c).map f
theorem rowB_len (c : Nat) (f : Nat → Bool) : (rowB c f).length = c := by simp [rowB]
theorem rowB_get (c : Nat) (f : Nat → Bool) (x : Nat) (h : x < c) : (rowB c f).getD x false = f x := by
  simp [rowB, List.getD_eq_getElem?_getD, h]
theorem rowB_zero (c : Nat) : rowB c (fun _ => false) = List.replicate c false := by
  apply List.ext_getElem
  · simp [rowB]
  · intro i h1 h2; simp [rowB]
/-- A table of bools: its rows one behind the other. -/
structure MatL (w : World) (B gb n c : Nat) (F : Nat → Nat → Bool) : Prop where
  blk : w.heap[gb]? = some (.cells ((List.range n).map fun b => Value.slice (some ⟨gb + 1 + b, 0, none⟩) c c).toArray 79)
  row : ∀ b, b < n → w.heap[gb + 1 + b]? = some (.cells (bcells (rowB c (F b))) 4)
  ge : B ≤ gb
theorem MatL.upd {w w' : World} {B gb n c : Nat} {F : Nat → Nat → Bool} {S : List Nat} (h : MatL w B gb n c F) (hu : Upd S w w') (hS : ∀ k ∈ S, k < gb ∨ gb + n < k) : MatL w' B gb n c F :=
  ⟨hu.heap h.blk (fun hm => by have := hS _ hm; omega), fun b hb => hu.heap (h.row b hb) (fun hm => by have := hS _ hm; omega), h.ge⟩
theorem MatL.head {w : World} {B gb n c : Nat} {F : Nat → Nat → Bool} (h : MatL w B gb n c F) (b : Nat) (hb : b < n) : w.cell? ⟨gb, b, none⟩ = some (.slice (some ⟨gb + 1 + b, 0, none⟩) c c) := by
  rw [cell_of h.blk]; simp [hb]
theorem MatL.cell {w : World} {B gb n c : Nat} {F : Nat → Nat → Bool} (h : MatL w B gb n c F) (b x : Nat) (hb : b < n) (hx : x < c) : w.cell? ⟨gb + 1 + b, x, none⟩ = some (.bool (F b x)) := by
  rw [cell_of (h.row b hb), bcells_get _ _ (by rw [rowB_len]; exact hx), rowB_get _ _ _ hx]

theorem ints_filter_succ (p : Nat → Bool) (j : Nat) : ints ((List.range (j + 1)).filter p) = ints ((List.range j).filter p) ++ if p j = true then [(j : Int)] else [] := by
  rw [List.range_succ, List.filter_append, ints, ints, List.map_append]
  congr 1
  by_cases h : p j = true
  · simp [h]
  · simp [h]
/-- The live ones of a table. -/
def locT (n c : Nat) (F : Nat → Nat → Bool) (pc : Int) : List Int := if 0 ≤ pc ∧ pc < (n : Int) then ints ((List.range c).filter (F pc.toNat)) else []

set_option maxRecDepth 100000 in
set_option maxHeartbeats 4000000 in
theorem rlocals_any (B gb n c : Nat) (F : Nat → Nat → Bool) (pc : Int) (w : World) (h : MatL w B gb n c F) (hc : c ≤ 1000) :
    Calls Tryz.prog 42 #[.slice (some ⟨gb, 0, none⟩) n n, .int .i64 pc] w fun e w' => ∃ u, e = .returned u ∧ OwnI w' w.heap.size 3 u (locT n c F pc) ∧ Upd [] w w' := by
  obtain ⟨i0, hi0, hz0, hy1, hy2⟩ := info_parts Tryz.infoInt
  have HII := Lib.hid hi0
  have HZ0 := Lib.hid hz0
  have HY1 := Lib.hid hy1
  have HY2 := Lib.hid hy2
  have H := Lib.hid h
  clear hi0 hz0 hy1 hy2 h
  by_cases hin : 0 ≤ pc ∧ pc < (n : Int)
  · obtain ⟨q, rfl⟩ := Int.eq_ofNat_of_zero_le hin.1
    have hq : q < n := by omega
    have HE : Hid (locT n c F (q : Int) = ints ((List.range c).filter (F q))) := by
      show _ = _
      unfold locT
      rw [if_pos hin, Int.toNat_natCast]
    rw [HE.out]
    clear hin HE
    have e1 : decide (n ≤ q) = false := decide_eq_false (by omega)
    have e2 : decide ((q : Int) < 0) = false := decide_eq_false (by omega)
    go_enter Tryz.func42, Tryz.ntmps42
    go_wp2_with fail
    go_loopw [5, 6] (fun v iv wr => ∃ j : Nat, j ≤ c ∧ iv = .int .i64 j ∧ Hid (OwnI wr w.heap.size 3 v (ints ((List.range j).filter (F q)))) ∧ Hid (Upd [] w wr)) (fun _ iv _ => c - (intOf iv).toNat)
    case atStart => exact ⟨0, by omega, rfl, OwnI.nil _ _ _, Upd.refl _ _⟩
    case round =>
      obtain ⟨j, hj, rfl, HX, HU⟩ := hrel
      obtain ⟨wo, rfl⟩ : ∃ wo : World, wo = wr := ⟨_, rfl⟩
      obtain ⟨vp, vc, hv⟩ := HX.out.shape
      have hhd := (H.out.upd HU.out (by simp)).head q hq
      by_cases hlt : j < c
      · have hcl := (H.out.upd HU.out (by simp)).cell q j hq hlt
        have HT := Lib.hid (ints_filter_succ (F q) j)
        have hLl : (ints ((List.range j).filter (F q))).length ≤ j := by
          have := List.length_filter_le (F q) (List.range j)
          rw [List.length_range] at this
          unfold ints
          rw [List.length_map]
          exact this
        generalize hL : (ints ((List.range j).filter (F q))).length = L at hv hLl
        subst hv
        have HL := Lib.hid hL
        clear hL
        cases hf : F q j with
        | true =>
          rw [hf] at hcl
          have HT3 : Hid (ints ((List.range (j + 1)).filter (F q)) = ints ((List.range j).filter (F q)) ++ [(j : Int)]) := by
            have := HT.out
            rwa [if_pos hf] at this
          clear HT hf
          go_wp2_with (at_builtin; refine stop_here ?_)
          refine Hid.mk ?_
          have hrow : (wo.alloc (.cells #[.int .i64 (j : Int)] 3)).ownsRow w.heap.size 3 1 (.slice vp L vc) L ((ints ((List.range j).filter (F q))).map (Value.int .i64)) := by
            have h := row_upd HX.out ((Upd.refl [] wo).alloc (.cells #[.int .i64 (j : Int)] 3)) (by simp)
            rwa [HL.out] at h
          have hsz := HU.out.size
          refine (wpList_append_src rfl _ _ 42 rfl w.heap.size 3 i0 _ 1 8 Tryz.underlying42 HII.out HZ0.out HY1.out HY2.out rfl (by decide) _ _ _ rfl hrow _ 1 ([(j : Int)].map (Value.int .i64)) rfl (.inr ⟨_, _, rfl, fun x u hu => by
            rw [Addr.add_lit, Nat.zero_add, cell_of (heap_alloc_new wo _)]
            show (([(j : Int)].map (Value.int .i64)).toArray)[x]? = some u
            rw [List.getElem?_toArray]
            exact hu⟩) rfl (oneI _) (by unfold maxLen; omega) (by omega) (by simp; omega) ?_)
          intro v' w7 hown hgr _
          have hown2 : w7.ownsRow w.heap.size 3 1 v' ((ints ((List.range j).filter (F q))).length + 1) ((ints ((List.range j).filter (F q))).map (Value.int .i64) ++ [.int .i64 (j : Int)]) := by rw [HL.out]; exact hown
          obtain ⟨hP, hW, hB⟩ := HX.out.push hown2 hgr
          rw [← HT3.out] at hP
          have HP := Lib.hid hP
          have HU7 := Lib.hid (HU.out.trans' hW (fun q hq hl => by have := (hB q hq).1; omega))
          clear hP hW hB hown hown2 hgr hrow hsz hcl hhd
          go_wp2_with fail
          go_roundw
          case rel => exact ⟨j + 1, by omega, by go_num, HP.out, HU7.out⟩
          case measure => simp [intOf]; omega
        | false =>
          rw [hf] at hcl
          have HT3 : Hid (ints ((List.range (j + 1)).filter (F q)) = ints ((List.range j).filter (F q))) := by
            have := HT.out
            rwa [if_neg (by rw [hf]; simp), List.append_nil] at this
          clear HT hf
          go_wp2_with fail
          go_roundw
          case rel => exact ⟨j + 1, by omega, by go_num, by rw [HT3.out]; exact HX.out, HU.out⟩
          case measure => simp [intOf]; omega
      · obtain rfl : j = c := by omega
        generalize hL : (ints ((List.range j).filter (F q))).length = L at hv
        subst hv
        clear hL
        go_wp2_with fail
        go_ret
        exact ⟨_, rfl, HX.out, HU.out⟩
  · have HE : Hid (locT n c F pc = []) := by
      show _ = _
      unfold locT
      rw [if_neg hin]
    rw [HE.out]
    go_enter Tryz.func42, Tryz.ntmps42
    by_cases h0 : pc < 0
    · clear hin
      go_wp2_with fail
      go_ret
      exact ⟨_, rfl, OwnI.nil _ _ _, Upd.refl _ _⟩
    · have h1 : (n : Int) ≤ pc := by omega
      clear hin
      go_wp2_with fail
      go_ret
      exact ⟨_, rfl, OwnI.nil _ _ _, Upd.refl _ _⟩

/-- Is a place reached? -/
def rseen (s : Lk) (n : Nat) (pc : Int) : Bool := decide (0 ≤ pc ∧ pc < (n : Int)) && seenF s pc.toNat

set_option maxRecDepth 100000 in
set_option maxHeartbeats 4000000 in
theorem rreached_any (p : Prg) (ss : List Lk) (a0 a1 : Option Addr) (n0 c0 n1 c1 : Nat) (v2 : Value) (k : Nat) (pc : Int) (w : World) (h : LksT w v2 p.ms ss) (hl : ss.length = p.ms.length) (hk : k < p.ms.length) (_hkm : p.ms.length ≤ 1000) (_hc : (p.ms.getD k default).code.length ≤ 1000) :
    Calls Tryz.prog 45 #[.agg #[.slice a0 n0 c0, .slice a1 n1 c1, v2], .int .i64 k, .int .i64 pc] w fun e w' => e = .returned (.bool (rseen (ss.getD k default) (p.ms.getD k default).code.length pc)) ∧ Upd [] w w' := by
  obtain ⟨a, cap, rfl, _, hx⟩ := h
  obtain ⟨b, o, gs, gb, rfl, x0, x1, x2, hlk⟩ := hx k (by omega)
  clear hx
  generalize p.ms.getD k default = m at x0 x1 hlk _hc ⊢
  generalize ss.getD k default = s at x2 hlk ⊢
  rw [hl]
  have hu := (Upd.refl [] w).alloc (.cells #[.slice a0 n0 c0, .slice a1 n1 c1, .slice (some ⟨b, o, none⟩) p.ms.length cap] 49)
  have hb := heap_alloc_new w (.cells #[.slice a0 n0 c0, .slice a1 n1 c1, .slice (some ⟨b, o, none⟩) p.ms.length cap] 49)
  have y2 : (w.alloc (.cells #[.slice a0 n0 c0, .slice a1 n1 c1, .slice (some ⟨b, o, none⟩) p.ms.length cap] 49)).cell? ⟨w.heap.size, 2, none⟩ = some (.slice (some ⟨b, o, none⟩) p.ms.length cap) := by rw [cell_of hb]; rfl
  have x0 := hu.cell x0 (by simp)
  have HU := Lib.hid hu
  have d0 : decide ((0 : Int) ≤ (k : Int)) = true := by simp
  have d1 : decide ((k : Int) < (p.ms.length : Int)) = true := by simp; omega
  clear hb
  go_enter Tryz.func45, Tryz.ntmps45
  by_cases hin : 0 ≤ pc ∧ pc < (m.code.length : Int)
  · obtain ⟨q, rfl⟩ := Int.eq_ofNat_of_zero_le hin.1
    have hq : q < m.code.length := by omega
    have z := hu.cell (hlk q hq).2 (by simp)
    have HE : Hid (rseen s m.code.length (q : Int) = s.seen.getD q false) := by
      show _ = _
      unfold rseen seenF
      rw [decide_eq_true hin, Bool.true_and, Int.toNat_natCast]
    rw [HE.out]
    clear hin HE hlk hu
    generalize s.seen.getD q false = bv at z ⊢
    go_wp2_with fail
    go_ret
    exact ⟨rfl, HU.out⟩
  · have HE : Hid (rseen s m.code.length pc = false) := by
      show _ = _
      unfold rseen
      rw [decide_eq_false hin, Bool.false_and]
    rw [HE.out]
    clear hlk hu
    by_cases h0 : pc < 0
    · clear hin HE
      go_wp2_with fail
      go_ret
      exact ⟨rfl, HU.out⟩
    · have h1 : (m.code.length : Int) ≤ pc := by omega
      clear hin HE
      go_wp2_with fail
      go_ret
      exact ⟨rfl, HU.out⟩
end Go.Proofs.YtpmfbhoochogoaaGreatDoor

/-! The letters of stacks are plain ones. No program in sight. -/
/-! The letters of stacks are plain ones. -/
namespace Go.Proofs.YtpmfbhoochogoaaGreatDoor
open Go.RowKit

def Asc (l : List UInt8) : Prop := ∀ c ∈ l, c.toNat < 128
theorem Asc.nil : Asc [] := fun _ h => by cases h
theorem Asc.app {a b : List UInt8} (h1 : Asc a) (h2 : Asc b) : Asc (a ++ b) := fun c h => by
  rcases List.mem_append.1 h with h | h
  · exact h1 c h
  · exact h2 c h
theorem Asc.take {a : List UInt8} (h : Asc a) (n : Nat) : Asc (a.take n) := fun c hc => h c (List.mem_of_mem_take hc)
theorem Asc.drop {a : List UInt8} (h : Asc a) (n : Nat) : Asc (a.drop n) := fun c hc => h c (List.mem_of_mem_drop hc)
theorem asc_I : Asc [lI] := fun c h => by rw [List.mem_singleton] at h; subst h; decide
theorem asc_R : Asc [lR] := fun c h => by rw [List.mem_singleton] at h; subst h; decide
theorem asc_letters {s : ByteArray} (h : lettersB s = true) : Asc s.toList := fun c hc => by
  obtain ⟨i, hi, rfl⟩ := List.mem_iff_getElem.1 hc
  rw [← size_list] at hi
  have h1 := get_list s i hi
  have h2 := lettersB_true.1 h i hi
  rw [List.getElem?_eq_getElem (by rw [← size_list]; exact hi)] at h1
  injection h1 with h1
  rw [h1]
  rcases h2 with h2 | h2
  · rw [h2]; decide
  · rw [h2]; decide
theorem asc_atB {l : List UInt8} (h : Asc l) (i : Int) : Asc (atB l i) := by
  unfold atB
  split
  · rename_i hp
    intro c hc
    rw [List.mem_singleton] at hc
    subst hc
    rw [List.getD_eq_getElem?_getD, List.getElem?_eq_getElem (by omega)]
    exact h _ (List.getElem_mem _)
  · exact Asc.nil
theorem asc_ret {s : ByteArray} (h : retOk s) : Asc s.toList := by
  rcases h with h | h | h
  · rw [h]; exact Asc.nil
  · rw [h]; exact fun c hc => by rw [List.mem_singleton] at hc; subst hc; decide
  · rw [h]; exact fun c hc => by rw [List.mem_singleton] at hc; subst hc; decide
theorem head_asc {k : Nat} {m : Meth} (h : headCode k m = 0) : Asc m.params.toList ∧ Asc m.locals.toList ∧ Asc m.ret.toList := by
  unfold headCode at h
  split at h
  · cases h
  · split at h
    · cases h
    · rename_i h2
      have h3 : lettersB m.params = true := Decidable.byContradiction fun c => h2 (.inl c)
      have h4 : lettersB m.locals = true := Decidable.byContradiction fun c => h2 (.inr (.inl c))
      have h5 : retOk m.ret := Decidable.byContradiction fun c => h2 (.inr (.inr (.inl c)))
      exact ⟨asc_letters h3, asc_letters h4, asc_ret h5⟩
theorem Prg.Ok.asc {p : Prg} (h : p.Ok) {k : Nat} (hk : k < p.ms.length) : Asc (kindsL (p.ms.getD k default)) := by
  obtain ⟨h1, h2, _⟩ := head_asc (h.meth k hk)
  exact h1.app h2
theorem Prg.Ok.cls_asc {p : Prg} (h : p.Ok) {j : Nat} (hj : j < p.cs.length) : Asc (p.cs.getD j ByteArray.empty).toList := by
  have h1 := h.cls j hj
  unfold clsCode at h1
  split at h1
  · cases h1
  · split at h1
    · rename_i h2; exact asc_letters h2
    · cases h1
theorem asc_field {p : Prg} (h : p.Ok) (a b : Int) : Asc (fieldL p.cs a b) := by
  unfold fieldL
  split
  · exact asc_atB (h.cls_asc (by omega)) _
  · exact Asc.nil
theorem asc_eff {p : Prg} (h : p.Ok) {k : Nat} (hk : k < p.ms.length) {x : Ins} {pop push : List UInt8} (he : effL p (p.ms.getD k default) x = some (pop, push)) : Asc push := by
  unfold effL at he
  by_cases c0 : 8 ≤ x.op ∧ x.op ≤ 20 ∧ x.op ≠ 18
  · rw [if_pos c0] at he; cases he; exact asc_I
  rw [if_neg c0] at he
  by_cases c1 : x.op = 1 ∨ x.op = 34
  · rw [if_pos c1] at he; cases he; exact asc_I
  rw [if_neg c1] at he
  by_cases c2 : x.op = 2 ∨ x.op = 24
  · rw [if_pos c2] at he; cases he; exact asc_R
  rw [if_neg c2] at he
  by_cases c3 : x.op = 3
  · rw [if_pos c3] at he; cases he; exact asc_atB (h.asc hk) _
  rw [if_neg c3] at he
  by_cases c4 : x.op = 4
  · rw [if_pos c4] at he; cases he; exact Asc.nil
  rw [if_neg c4] at he
  by_cases c5 : x.op = 18
  · rw [if_pos c5] at he; cases he; exact asc_I
  rw [if_neg c5] at he
  by_cases c6 : x.op = 21
  · rw [if_pos c6] at he; cases he; exact asc_I
  rw [if_neg c6] at he
  by_cases c7 : x.op = 22
  · rw [if_pos c7] at he; cases he; exact Asc.nil
  rw [if_neg c7] at he
  by_cases c8 : x.op = 23 ∨ x.op = 35
  · rw [if_pos c8] at he; cases he; exact Asc.nil
  rw [if_neg c8] at he
  by_cases c9 : x.op = 25
  · rw [if_pos c9] at he; cases he; exact asc_field h _ _
  rw [if_neg c9] at he
  by_cases c10 : x.op = 26
  · rw [if_pos c10] at he; cases he; exact Asc.nil
  rw [if_neg c10] at he
  by_cases c11 : x.op = 27 ∨ x.op = 31
  · rw [if_pos c11] at he; cases he; exact asc_I
  rw [if_neg c11] at he
  by_cases c12 : x.op = 28
  · rw [if_pos c12] at he; cases he; exact asc_R
  rw [if_neg c12] at he
  by_cases c13 : x.op = 29
  · rw [if_pos c13] at he; cases he; exact asc_atB (asc_I.app asc_R) _
  rw [if_neg c13] at he
  by_cases c14 : x.op = 30
  · rw [if_pos c14] at he; cases he; exact Asc.nil
  rw [if_neg c14] at he
  by_cases c15 : x.op = 32
  · rw [if_pos c15] at he
    by_cases cc : 0 ≤ x.a ∧ x.a < (p.ms.length : Int)
    · rw [if_pos cc] at he; cases he; exact (head_asc (h.meth _ (by omega))).2.2
    · rw [if_neg cc] at he; cases he; exact Asc.nil
  rw [if_neg c15] at he
  by_cases c16 : x.op = 33
  · rw [if_pos c16] at he; cases he; exact Asc.nil
  rw [if_neg c16] at he
  cases he
theorem asc_beh {p : Prg} (h : p.Ok) {k : Nat} (hk : k < p.ms.length) {x : Ins} {s t : List UInt8} (hs : Asc s) (e : behL p (p.ms.getD k default) x s = .ok t) : Asc t := by
  by_cases h5 : x.op = 5
  · rw [(behL_dup e h5).2]; exact hs.app (hs.drop _)
  by_cases h6 : x.op = 6
  · rw [(behL_pop e h6).2]; exact hs.take _
  by_cases h7 : x.op = 7
  · rw [(behL_swap e h7).2]; exact ((hs.take _).app (hs.drop _)).app ((hs.take _).drop _)
  cases he : effL p (p.ms.getD k default) x with
  | some r =>
    obtain ⟨pop, push⟩ := r
    rw [(behL_eff e h5 h6 h7 he).2.2]
    exact (hs.take _).app (asc_eff h hk he)
  | none =>
    unfold behL at e
    rw [if_neg h5, if_neg h6, if_neg h7, he] at e
    rw [(out_inv e).1]
    exact hs
theorem asc_to {n : Nat} {s s' : Lk} {k : Int} {t : List UInt8} (h : ∀ q, Asc (s.stk.getD q [])) (ht : Asc t) (e : Lk.to n s k t = .ok s') : ∀ q, Asc (s'.stk.getD q []) := by
  unfold Lk.to at e
  split at e
  · cases e
  · split at e
    · cases e
      intro q
      show Asc ((s.stk.set k.toNat t).getD q [])
      rw [getD_set_b]
      split
      · exact ht
      · exact h q
    · split at e
      · cases e
      · cases e
        exact h
theorem asc_tos {n : Nat} {t : List UInt8} (ht : Asc t) : ∀ {l : List Int} {s s' : Lk}, (∀ q, Asc (s.stk.getD q [])) → l.foldlM (fun s k => Lk.to n s k t) s = .ok s' → ∀ q, Asc (s'.stk.getD q [])
  | [], _, _, h, e => by cases e; exact h
  | k :: l, s, s', h, e => by
    rw [List.foldlM_cons] at e
    cases h1 : Lk.to n s k t with
    | error e' => rw [h1] at e; cases e
    | ok s1 =>
      rw [h1] at e
      exact asc_tos ht (asc_to h ht h1) (show l.foldlM (fun s k => Lk.to n s k t) s1 = .ok s' from e)
theorem asc_step {p : Prg} (hp : p.Ok) {k : Nat} (hk : k < p.ms.length) {s s' : Lk} (h : ∀ q, Asc (s.stk.getD q [])) (e : s.step p (p.ms.getD k default) = .ok s') : ∀ q, Asc (s'.stk.getD q []) := by
  unfold Lk.step at e
  simp only at e
  split at e
  · cases e
  · rename_i t ht
    split at e
    · cases e
    · rename_i s2 h2
      cases e
      exact asc_tos (asc_beh hp hk (h _) ht) (s := s.take (s.pick (p.ms.getD k default).code.length) t) h h2
theorem asc_run {p : Prg} (hp : p.Ok) {k : Nat} (hk : k < p.ms.length) : ∀ (i : Nat) {s : Lk}, Lk.run p (p.ms.getD k default) i = .ok s → ∀ q, Asc (s.stk.getD q [])
  | 0, s, e => by
    cases e
    intro q
    show Asc ((List.replicate _ []).getD q [])
    rw [List.getD_eq_getElem?_getD, List.getElem?_replicate]
    split <;> exact Asc.nil
  | i + 1, s, e => by
    have e2 : (match Lk.run p (p.ms.getD k default) i with | .error e => Except.error e | .ok s => if s.pick (p.ms.getD k default).code.length = (p.ms.getD k default).code.length then .ok s else s.step p (p.ms.getD k default)) = .ok s := e
    cases h1 : Lk.run p (p.ms.getD k default) i with
    | error e' => rw [h1] at e2; cases e2
    | ok s0 =>
      rw [h1] at e2
      simp only at e2
      have h2 := asc_run hp hk i h1
      split at e2
      · cases e2; exact h2
      · exact asc_step hp hk h2 e2
theorem look_asc {p : Prg} (hp : p.Ok) {k : Nat} (hk : k < p.ms.length) {s : Lk} (e : lookM p (p.ms.getD k default) = .ok s) (q : Nat) : Asc (s.stk.getD q []) := asc_run hp hk _ e q
end Go.Proofs.YtpmfbhoochogoaaGreatDoor

/-! overdriveref7.Info.Live: the document's table of what is live. -/
/-! overdriveref7.Info.Live: the document's table of what is live. -/
namespace Go.Proofs.YtpmfbhoochogoaaGreatDoor
open Go.RowKit

theorem LvP.look1 {p : Prg} {ss : List Lk} {k : Nat} {m : Meth} {s : Lk} (h : LvP p ss k m s) : lookM p m = .ok s := by
  have h1 := h.look k h.lt
  rwa [← h.meth, ← h.lk] at h1
theorem LvP.next {p : Prg} {ss : List Lk} {k : Nat} {m : Meth} {s : Lk} (h : LvP p ss k m s) {pc : Nat} (hs : seenF s pc = true) {x : Int} (hx : x ∈ nextL m.code pc) : 0 ≤ x ∧ x < (m.code.length : Int) ∧ seenF s x.toNat = true := by
  have hlt := h.seen_lt hs
  have h0 : 0 ≤ x := by
    have h1 := next_ge h.ok k h.lt pc (by rw [← h.meth]; exact hlt)
    rw [← h.meth] at h1
    exact h1 x hx
  obtain ⟨q, rfl⟩ := Int.eq_ofNat_of_zero_le h0
  obtain ⟨t, _, _, _, _, hnx⟩ := Lk.at_next (by omega) h.look1 (show s.At pc _ from ⟨hs, rfl⟩)
  have h2 := hnx q hx
  exact ⟨h0, h2.1, h2.2.1⟩

/-- One place of the table is turned. -/
def setT (F : Nat → Nat → Bool) (i k : Nat) : Nat → Nat → Bool := fun a b => if a = i ∧ b = k then true else F a b
theorem setT_le (F : Nat → Nat → Bool) (i k : Nat) : ∀ a b, F a b = true → setT F i k a b = true := fun a b h => by unfold setT; split <;> simp [h]
theorem rowB_set (c : Nat) (F : Nat → Nat → Bool) (i k : Nat) : (rowB c (F i)).set k true = rowB c (setT F i k i) := by
  apply List.ext_getElem
  · simp [rowB]
  · intro j h1 h2
    simp only [rowB, setT, List.getElem_set, List.getElem_map, List.getElem_range]
    by_cases e : k = j
    · subst e; simp
    · rw [if_neg e, if_neg (by omega)]
theorem rowB_other (c : Nat) (F : Nat → Nat → Bool) (i k b : Nat) (h : b ≠ i) : rowB c (setT F i k b) = rowB c (F b) := by
  unfold rowB
  refine List.map_congr_left (fun x _ => ?_)
  unfold setT
  rw [if_neg (by omega)]
theorem MatL.set {w w' : World} {B gb n c : Nat} {F : Nat → Nat → Bool} (h : MatL w B gb n c F) (i k : Nat) (hi : i < n) (hu : Upd [gb + 1 + i] w w') (hr : w'.heap[gb + 1 + i]? = some (.cells (bcells ((rowB c (F i)).set k true)) 4)) : MatL w' B gb n c (setT F i k) := by
  refine ⟨hu.heap h.blk (by simp; omega), fun b hb => ?_, h.ge⟩
  by_cases e : b = i
  · subst e
    rw [hr, rowB_set]
  · rw [rowB_other _ _ _ _ _ e]
    exact hu.heap (h.row b hb) (by simp; omega)

/-- The table within a round, against the one at its beginning. -/
structure LvIn (xs : List Ins) (seen : Nat → Bool) (n nk : Nat) (F0 F : Nat → Nat → Bool) (ag : Bool) : Prop where
  sound : SoundF xs seen F
  sup : ∀ i k, F i k = true → k < nk
  le : ∀ i k, F0 i k = true → F i k = true
  same : ag = false → F = F0
  less : ag = true → cntF n nk F < cntF n nk F0
theorem LvIn.start {xs : List Ins} {seen : Nat → Bool} {n nk : Nat} {F : Nat → Nat → Bool} (h : SoundF xs seen F) (hs : ∀ i k, F i k = true → k < nk) : LvIn xs seen n nk F F false := ⟨h, hs, fun _ _ h => h, fun _ => rfl, fun h => by cases h⟩
theorem LvIn.put {xs : List Ins} {seen : Nat → Bool} {n nk : Nat} {F0 F : Nat → Nat → Bool} {ag : Bool} (h : LvIn xs seen n nk F0 F ag) {i k : Nat} (hi : i < n) (hk : k < nk) (hs : seen i = true) (ha : ahF xs seen nk F i k = true) (hf : F i k = false) : LvIn xs seen n nk F0 (setT F i k) true := by
  refine ⟨fun a b hab => ?_, fun a b hab => ?_, fun a b hab => setT_le _ _ _ _ _ (h.le a b hab), (fun h => by cases h), fun _ => ?_⟩
  · unfold setT at hab
    split at hab
    · rename_i e
      obtain ⟨rfl, rfl⟩ := e
      exact ah_sound h.sound hs ha
    · exact h.sound a b hab
  · unfold setT at hab
    split at hab
    · rename_i e
      obtain ⟨rfl, rfl⟩ := e
      exact hk
    · exact h.sup a b hab
  · refine Nat.lt_of_lt_of_le (cntF_lt (setT_le F i k) hi hk (by unfold setT; simp) hf) (cntF_le h.le)

theorem ah_sup {xs : List Ins} {seen : Nat → Bool} {nk : Nat} {F : Nat → Nat → Bool} (hs : ∀ i q, F i q = true → q < nk) {pc q : Nat} (h : ahF xs seen nk F pc q = true) : q < nk := by
  unfold ahF behF at h
  rw [Bool.or_eq_true] at h
  rcases h with h | h
  · rw [Bool.and_eq_true, List.any_eq_true] at h
    obtain ⟨⟨x, _, hx⟩, _⟩ := h
    rw [Bool.and_eq_true, Bool.and_eq_true] at hx
    exact hs _ _ hx.2.2
  · rw [Bool.and_eq_true, Bool.and_eq_true, decide_eq_true_eq, decide_eq_true_eq] at h
    exact h.2.1
/-- What is worked out for a place. -/
def nowF (xs : List Ins) (seen : Nat → Bool) (F : Nat → Nat → Bool) (pc k j : Nat) : Bool :=
  (decide ((xs.getD pc default).op = 3) && decide ((xs.getD pc default).a = (k : Int))) || (((nextL xs pc).take j).any fun q => decide (q < xs.length) && (seen q.toNat && F q.toNat k))
theorem nowF_end {xs : List Ins} {seen : Nat → Bool} {nk : Nat} {F : Nat → Nat → Bool} {pc k : Nat} (hk : k < nk) (h : ¬ ((xs.getD pc default).op = 4 ∧ (xs.getD pc default).a = (k : Int))) : nowF xs seen F pc k (nextL xs pc).length = ahF xs seen nk F pc k := by
  unfold nowF ahF behF
  rw [List.take_length, decide_eq_true hk]
  have e : (decide ((xs.getD pc default).op = 4) && decide ((xs.getD pc default).a = (k : Int))) = false := by
    rw [Bool.and_eq_false_iff, decide_eq_false_iff_not, decide_eq_false_iff_not]
    omega
  rw [e, Bool.true_and, Bool.not_false, Bool.and_true, Bool.or_comm]
theorem nowF_store {xs : List Ins} {seen : Nat → Bool} {nk : Nat} {F : Nat → Nat → Bool} {pc k : Nat} (h : (xs.getD pc default).op = 4 ∧ (xs.getD pc default).a = (k : Int)) : ahF xs seen nk F pc k = false ∧ nowF xs seen F pc k 0 = false := by
  unfold nowF ahF
  rw [decide_eq_true h.1, decide_eq_true h.2, decide_eq_false (by omega : ¬ (xs.getD pc default).op = 3)]
  simp
theorem nowF_step {xs : List Ins} {seen : Nat → Bool} {F : Nat → Nat → Bool} {pc k j : Nat} (hj : j < (nextL xs pc).length) (q : Nat) (hq : (nextL xs pc).getD j 0 = (q : Int)) (hl : q < xs.length) (hs : seen q = true) : nowF xs seen F pc k (j + 1) = (nowF xs seen F pc k j || F q k) := by
  unfold nowF
  rw [any_take_succ _ _ _ hj, hq, decide_eq_true (by omega : (q : Int) < (xs.length : Int)), Int.toNat_natCast, hs, ← Bool.or_assoc]
  simp

/-- What the world says of the table. -/
def matW (w : World) (gb i k : Nat) : Bool := match w.cell? ⟨gb + 1 + i, k, none⟩ with
  | some (.bool b) => b
  | _ => false
theorem MatL.cnt {w : World} {B gb n c : Nat} {F : Nat → Nat → Bool} (h : MatL w B gb n c F) : cntF n c (matW w gb) = cntF n c F := cntF_congr fun i k hi hk => by
  unfold matW
  rw [h.cell i k hi hk]

/-- Slices that are laid one by one. -/
def hdL (n c wb k : Nat) : Array Value := ((List.range n).map fun b => if b < k then Value.slice (some ⟨wb + b, 0, none⟩) c c else Value.slice none 0 0).toArray
theorem hdL_zero (n c wb : Nat) : hdL n c wb 0 = (List.replicate n (Value.slice none 0 0)).toArray := by
  unfold hdL
  congr 1
  apply List.ext_getElem
  · simp
  · intro i h1 h2; simp
theorem hdL_step (n c wb k : Nat) (_h : k < n) : (hdL n c wb k).setIfInBounds k (.slice (some ⟨wb + k, 0, none⟩) c c) = hdL n c wb (k + 1) := by
  unfold hdL
  rw [List.setIfInBounds_toArray]
  congr 1
  apply List.ext_getElem
  · simp
  · intro i h1 h2
    simp only [List.getElem_set, List.getElem_map, List.getElem_range]
    by_cases e : k = i
    · subst e; simp
    · rw [if_neg e]
      by_cases e2 : i < k
      · rw [if_pos e2, if_pos (by omega)]
      · rw [if_neg e2, if_neg (by omega)]
theorem hdL_all (n c wb : Nat) : hdL n c wb n = ((List.range n).map fun b => Value.slice (some ⟨wb + b, 0, none⟩) c c).toArray := by
  unfold hdL
  congr 1
  refine List.map_congr_left (fun b hb => ?_)
  rw [List.mem_range] at hb
  rw [if_pos hb]
theorem hdL_get (n c wb k i : Nat) (h : i < n) : (hdL n c wb k)[i]? = some (if i < k then Value.slice (some ⟨wb + i, 0, none⟩) c c else Value.slice none 0 0) := by
  simp [hdL, h]

set_option maxRecDepth 100000 in
set_option maxHeartbeats 8000000 in
theorem rlive_any (p : Prg) (ss : List Lk) (ca ma : Option Addr) (cn cc mc : Nat) (v2 : Value) (k : Nat) (m : Meth) (s : Lk) (w : World) (hP : LvP p ss k m s) (hm : MethsAt w (.slice ma p.ms.length mc) p.ms) (h : LksT w v2 p.ms ss) :
    Calls Tryz.prog 41 #[.agg #[.slice ca cn cc, .slice ma p.ms.length mc, v2], .int .i64 k] w fun e w' => ∃ gb, e = .returned (.slice (some ⟨gb, 0, none⟩) m.code.length m.code.length) ∧ MatL w' w.heap.size gb m.code.length (kindsL m).length (liveG m.code (seenF s)) ∧ Upd [] w w' := by
  have HP := Lib.hid hP
  have HLD : Hid (∀ i, seenF s i = true → (m.code.getD i default).op = 3 → (m.code.getD i default).a < ((kindsL m).length : Int)) := fun i hi h3 => by
    have h1 := hP.seen_lt hi
    have h2 := hP.meth
    rw [h2] at h1 h3 ⊢
    exact (hP.ok.load hP.lt h1 (.inl h3)).2
  have hk := hP.lt
  have hl := hP.len
  have hmk := hP.meth
  have hsk := hP.lk
  have hc1 := hP.ok.code1 k hk
  have hsz := hP.ok.sizes k
  rw [← hmk] at hc1 hsz
  obtain ⟨mp, mcx, hme, hml, hmm, hmx⟩ := hm
  injection hme with hme1 _ hme2
  subst hme1 hme2
  obtain ⟨bm, mo, rfl, _, q0, q1, q2, kv, q3, hcode⟩ := hmx k hk
  obtain ⟨a, cap, rfl, hcap, hx⟩ := h
  obtain ⟨b, o, gs, gr, rfl, x0, x1, x2, hlk⟩ := hx k (by omega)
  clear hx hmx
  rw [← hmk] at q0 q1 q2 hcode hlk x0 x1
  rw [← hsk] at hlk x2
  rw [hl]
  have HLKC := Lib.hid hlk
  have HCODE := Lib.hid hcode
  obtain ⟨ka, kc, rfl, hkl1, hkm, hkc⟩ := hcode
  unfold maxLen at hkm hmm hcap
  have HKC := Lib.hid hkc
  clear hkc hlk hmk hsk hP
  have hu := (Upd.refl [] w).alloc (.cells #[.slice ca cn cc, .slice (some ⟨bm, mo, none⟩) p.ms.length mc, .slice (some ⟨b, o, none⟩) p.ms.length cap] 49)
  have hb := heap_alloc_new w (.cells #[.slice ca cn cc, .slice (some ⟨bm, mo, none⟩) p.ms.length mc, .slice (some ⟨b, o, none⟩) p.ms.length cap] 49)
  go_enter Tryz.func41, Tryz.ntmps41
  go_upto_region 1 with fail
  have hz1 : (w.alloc (.cells #[.slice ca cn cc, .slice (some ⟨bm, mo, none⟩) p.ms.length mc, .slice (some ⟨b, o, none⟩) p.ms.length cap] 49)).heap.size = w.heap.size + 1 := by simp
  have q0 := hu.cell q0 (by simp)
  have q1 := hu.cell q1 (by simp)
  have q2 := hu.cell q2 (by simp)
  have q3 := hu.cell q3 (by simp)
  generalize w.alloc (.cells #[.slice ca cn cc, .slice (some ⟨bm, mo, none⟩) p.ms.length mc, .slice (some ⟨b, o, none⟩) p.ms.length cap] 49) = w1 at hu hb hz1 q0 q1 q2 q3 ⊢
  have y1 : w1.cell? ⟨w.heap.size, 1, none⟩ = some (.slice (some ⟨bm, mo, none⟩) p.ms.length mc) := by rw [cell_of hb]; rfl
  have y2 : w1.cell? ⟨w.heap.size, 2, none⟩ = some (.slice (some ⟨b, o, none⟩) p.ms.length cap) := by rw [cell_of hb]; rfl
  have d0 : decide ((k : Int) < 0) = false := decide_eq_false (by omega)
  have d1 : decide (p.ms.length ≤ k) = false := decide_eq_false (by omega)
  have HB1 := Lib.hid hb
  clear hb
  go_upto_region 4 with fail
  have hu2 := (Upd.refl [] w1).alloc (.cells #[.string m.params, .string m.locals, .string m.ret, .slice ka m.code.length kc] 27)
  have HM2 := Lib.hid (heap_alloc_new w1 (.cells #[.string m.params, .string m.locals, .string m.ret, .slice ka m.code.length kc] 27))
  have HB2 := Lib.hid (hu2.heap HB1.out (by simp))
  have HU2 := Lib.hid (hu.trans hu2)
  rw [hz1] at HM2
  clear hu hu2 q0 q1 q2 q3 y1 y2 HB1
  generalize w1.alloc (.cells #[.string m.params, .string m.locals, .string m.ret, .slice ka m.code.length kc] 27) = w2 at HM2 HB2 HU2 ⊢
  clear hz1
  have b0 : w2.cell? ⟨w.heap.size + 1, 0, none⟩ = some (.string m.params) := by rw [cell_of HM2.out]; rfl
  have b1 : w2.cell? ⟨w.heap.size + 1, 1, none⟩ = some (.string m.locals) := by rw [cell_of HM2.out]; rfl
  have b2 : w2.cell? ⟨w.heap.size + 1, 2, none⟩ = some (.string m.ret) := by rw [cell_of HM2.out]; rfl
  have b3 : w2.cell? ⟨w.heap.size + 1, 3, none⟩ = some (.slice ka m.code.length kc) := by rw [cell_of HM2.out]; rfl
  go_wp2_with fail
  refine (rkinds_any m _ w2 (by omega) (by omega)).mono ?_
  rintro e w3 ⟨rfl, hu3⟩
  have HM3 := Lib.hid (hu3.heap HM2.out (by simp))
  have HB3 := Lib.hid (hu3.heap HB2.out (by simp))
  have HU3 := Lib.hid (HU2.out.trans hu3)
  have b3 := hu3.cell b3 (by simp)
  clear hu3 HM2 HB2 HU2 b0 b1 b2
  have hksz : (bs (kindsL m)).size = (kindsL m).length := bs_size _
  have hkle : (kindsL m).length ≤ 24 := by
    have : (kindsL m).length = m.params.size + m.locals.size := by
      unfold kindsL
      rw [List.length_append, ← size_list, ← size_list]
    omega
  generalize hnk : (kindsL m).length = nk at hksz hkle HLD ⊢
  have HNK := Lib.hid hnk
  clear hnk
  generalize bs (kindsL m) = KS at hksz ⊢
  have hmk1 := make_brows w3 m.code.length (by omega)
  have hmk2 := fun W => make_bools W nk (by omega)
  have hu4 := (Upd.refl [] w3).alloc (.cells (List.replicate m.code.length (Value.slice none 0 0)).toArray 79)
  have hg4 := heap_alloc_new w3 (.cells (List.replicate m.code.length (Value.slice none 0 0)).toArray 79)
  have hz4 := World.size_alloc w3 (.cells (List.replicate m.code.length (Value.slice none 0 0)).toArray 79)
  rw [List.toArray_replicate] at hu4 hg4 hmk1 hz4
  have hgb : w.heap.size + 1 < w3.heap.size := lt_of_heap HM3.out
  have HU4 := Lib.hid (HU3.out.trans hu4)
  have HM4 := Lib.hid (hu4.heap HM3.out (by simp))
  have HB4 := Lib.hid (hu4.heap HB3.out (by simp))
  have HG4 := Lib.hid hg4
  have HZ4 := Lib.hid hz4
  clear hu4 hg4 hz4 HU3 HM3 HB3
  go_upto_region 6 with fail
  generalize w3.alloc (.cells (Array.replicate m.code.length (Value.slice none 0 0)) 79) = w4 at HU4 HM4 HB4 HG4 HZ4 ⊢
  clear b3 hmk1
  generalize w3.heap.size = gb at hgb HG4 HZ4 ⊢
  clear hksz
  go_wp2_with fail
  go_loopw [8] (fun iv wr => ∃ i : Nat, i ≤ m.code.length ∧ iv = .int .i64 (i : Int) ∧ Hid (wr.heap[gb]? = some (.cells (hdL m.code.length nk (gb + 1) i) 79)) ∧ Hid (wr.heap.size = gb + 1 + i) ∧ Hid (∀ b, b < i → wr.heap[gb + 1 + b]? = some (.cells (bcells (List.replicate nk false)) 4)) ∧ Hid (wr.heap[w.heap.size + 1]? = some (.cells #[.string m.params, .string m.locals, .string m.ret, .slice ka m.code.length kc] 27)) ∧
    Hid (wr.heap[w.heap.size]? = some (.cells #[.slice ca cn cc, .slice (some ⟨bm, mo, none⟩) p.ms.length mc, .slice (some ⟨b, o, none⟩) p.ms.length cap] 49)) ∧ Hid (Upd [] w wr)) (fun iv _ => m.code.length - (intOf iv).toNat)
  case atStart =>
    refine ⟨0, by omega, rfl, ?_, HZ4.out, fun b hb => absurd hb (by omega), HM4.out, HB4.out, HU4.out⟩
    rw [hdL_zero, List.toArray_replicate]; exact HG4.out
  case round =>
    clear HU4 HM4 HB4 HG4 HZ4
    obtain ⟨i, hi, rfl, HH, HZ, HR, HM, HI, HU⟩ := hrel
    obtain ⟨wo, rfl⟩ : ∃ wo : World, wo = wr := ⟨_, rfl⟩
    have b3 : wo.cell? ⟨w.heap.size + 1, 3, none⟩ = some (.slice ka m.code.length kc) := by rw [cell_of HM.out]; rfl
    by_cases hlt : i < m.code.length
    · have hal := (Upd.refl [] wo).alloc (.cells (bcells (List.replicate nk false)) 4)
      have hH2 := hal.heap HH.out (by simp)
      have hnew := heap_alloc_new wo (.cells (bcells (List.replicate nk false)) 4)
      rw [HZ.out] at hnew
      have hcg := cell_of hH2 i
      rw [hdL_get _ _ _ _ _ hlt, if_neg (by omega)] at hcg
      have hfg := froz_of hH2 i
      have hst := heap_setCell hH2 i (.slice (some ⟨gb + 1 + i, 0, none⟩) nk nk)
      rw [hdL_step _ _ _ _ hlt] at hst
      have hset := (Upd.refl [gb] (wo.alloc (.cells (bcells (List.replicate nk false)) 4))).setCell (p := ⟨gb, i, none⟩) (.inl (by simp)) (.slice (some ⟨gb + 1 + i, 0, none⟩) nk nk)
      have hbn : ∀ b, b < i + 1 → ((wo.alloc (.cells (bcells (List.replicate nk false)) 4)).setCell ⟨gb, i, none⟩ (.slice (some ⟨gb + 1 + i, 0, none⟩) nk nk)).heap[gb + 1 + b]? = some (.cells (bcells (List.replicate nk false)) 4) := fun b hb => by
        refine hset.heap ?_ (by simp; omega)
        by_cases e : b = i
        · subst e; exact hnew
        · exact hal.heap (HR.out b (by omega)) (by simp)
      have HST := Lib.hid hst
      have HRN := Lib.hid hbn
      have HMN := Lib.hid (hset.heap (hal.heap HM.out (by simp)) (by simp; omega))
      have HIN := Lib.hid (hset.heap (hal.heap HI.out (by simp)) (by simp; omega))
      have HUN := Lib.hid ((HU.out.trans hal).trans' hset (fun q hq hl => by rw [List.mem_singleton] at hq; omega))
      have HZN : Hid (((wo.alloc (.cells (bcells (List.replicate nk false)) 4)).setCell ⟨gb, i, none⟩ (.slice (some ⟨gb + 1 + i, 0, none⟩) nk nk)).heap.size = gb + 1 + (i + 1)) := by
        show _ = _
        rw [show ((wo.alloc (.cells (bcells (List.replicate nk false)) 4)).setCell ⟨gb, i, none⟩ (.slice (some ⟨gb + 1 + i, 0, none⟩) nk nk)).heap.size = wo.heap.size + 1 by simp [World.setCell], HZ.out]
        omega
      have hzo := HZ.out
      clear hal hH2 hnew hst hset hbn
      go_wp2_with fail
      go_roundw
      case rel => exact ⟨i + 1, by omega, by go_num, HST.out, HZN.out, HRN.out, HMN.out, HIN.out, HUN.out⟩
      case measure => simp [intOf]; omega
    · obtain rfl : i = m.code.length := by omega
      have hH := HH.out
      rw [hdL_all] at hH
      have HT0 : Hid (MatL wo w.heap.size gb m.code.length nk (fun _ _ => false)) := ⟨hH, fun b hb => by rw [rowB_zero]; exact HR.out b hb, by omega⟩
      clear hH HH HR HZ
      go_wp2_with fail
      go_loopw [9, 10, 11, 12, 13, 14, 15] (fun av _ _ _ _ _ _ wr => ∃ (ag : Bool) (F : Nat → Nat → Bool), av = .bool ag ∧ Hid (SoundF m.code (seenF s) F) ∧ Hid (∀ i q, F i q = true → q < nk) ∧ Hid (ag = false → ∀ i, seenF s i = true → ∀ q, ahF m.code (seenF s) nk F i q = true → F i q = true) ∧ Hid (MatL wr w.heap.size gb m.code.length nk F) ∧
        Hid (wr.heap[w.heap.size + 1]? = some (.cells #[.string m.params, .string m.locals, .string m.ret, .slice ka m.code.length kc] 27)) ∧ Hid (wr.heap[w.heap.size]? = some (.cells #[.slice ca cn cc, .slice (some ⟨bm, mo, none⟩) p.ms.length mc, .slice (some ⟨b, o, none⟩) p.ms.length cap] 49)) ∧ Hid (Upd [] w wr)) (fun av _ _ _ _ _ _ wr => 2 * cntF m.code.length nk (matW wr gb) + chM av)
      case atStart => exact ⟨true, _, rfl, sound_zero _ _, (fun i q h => by cases h), (fun h => by cases h), HT0.out, HM.out, HI.out, HU.out⟩
      case round =>
        clear HT0 HM HI HU b3
        obtain ⟨ag, F0, rfl, HSO, HSU, HCL, HT, HM, HI, HU⟩ := hrel
        obtain ⟨wo, rfl⟩ : ∃ wo : World, wo = wr := ⟨_, rfl⟩
        have b3 : wo.cell? ⟨w.heap.size + 1, 3, none⟩ = some (.slice ka m.code.length kc) := by rw [cell_of HM.out]; rfl
        cases ag with
        | false =>
          have HE : Hid (F0 = liveG m.code (seenF s)) := by
            funext pc q
            have h1 := closed_is (nk := nk) HSO.out (HCL.out rfl) (fun i hi h3 => HLD.out i hi h3) (fun i hi => HP.out.seen_lt hi) (fun i hi x hx => (HP.out.next hi hx).1) pc q
            rw [← liveG_iff] at h1
            exact Bool.eq_iff_iff.2 h1
          go_wp2_with fail
          go_ret
          exact ⟨gb, rfl, by rw [HNK.out, ← HE.out]; exact HT.out, HU.out⟩
        | true =>
          clear HCL
          go_wp2_with fail
          go_loopw [9, 10, 11, 12, 13, 14, 15] (fun av jv _ _ _ _ _ wr => ∃ (j : Nat) (ag : Bool) (F : Nat → Nat → Bool), j ≤ m.code.length ∧ jv = .int .i64 ((j : Int) - 1) ∧ av = .bool ag ∧ Hid (LvIn m.code (seenF s) m.code.length nk F0 F ag) ∧ Hid (ag = false → ∀ i, j ≤ i → seenF s i = true → ∀ q, ahF m.code (seenF s) nk F0 i q = true → F0 i q = true) ∧ Hid (MatL wr w.heap.size gb m.code.length nk F) ∧
            Hid (wr.heap[w.heap.size + 1]? = some (.cells #[.string m.params, .string m.locals, .string m.ret, .slice ka m.code.length kc] 27)) ∧ Hid (wr.heap[w.heap.size]? = some (.cells #[.slice ca cn cc, .slice (some ⟨bm, mo, none⟩) p.ms.length mc, .slice (some ⟨b, o, none⟩) p.ms.length cap] 49)) ∧ Hid (Upd [] w wr)) (fun _ jv _ _ _ _ _ _ => (intOf jv + 1).toNat)
          case atStart => exact ⟨m.code.length, false, F0, by omega, by go_num, rfl, LvIn.start HSO.out HSU.out, (fun _ i hi hs => by have := HP.out.seen_lt hs; omega), HT.out, HM.out, HI.out, HU.out⟩
          case round =>
            have HT00 := HT
            clear HM HI HU b3 HT
            obtain ⟨j, ag, F, hj, rfl, rfl, HIN, HCL, HT, HM, HI, HU⟩ := hrel
            obtain ⟨wp, rfl⟩ : ∃ wp : World, wp = wr := ⟨_, rfl⟩
            have b3 : wp.cell? ⟨w.heap.size + 1, 3, none⟩ = some (.slice ka m.code.length kc) := by rw [cell_of HM.out]; rfl
            by_cases hj0 : j = 0
            · subst hj0
              go_wp2_with fail
              go_roundw
              case rel => exact ⟨ag, F, rfl, HIN.out.sound, HIN.out.sup, (fun ha i hs q h => by
                have e := HIN.out.same ha
                rw [e] at h ⊢
                exact HCL.out ha i (by omega) hs q h), HT.out, HM.out, HI.out, HU.out⟩
              case measure =>
                rw [HT.out.cnt, HT00.out.cnt]
                cases ag with
                | false =>
                  rw [HIN.out.same rfl]
                  simp [chM]
                | true =>
                  have := HIN.out.less rfl
                  simp [chM]
                  omega
            · obtain ⟨pc, rfl⟩ : ∃ pc, j = pc + 1 := ⟨j - 1, by omega⟩
              rw [show ((pc + 1 : Nat) : Int) - 1 = (pc : Int) by omega]
              have i2 : wp.cell? ⟨w.heap.size, 2, none⟩ = some (.slice (some ⟨b, o, none⟩) p.ms.length cap) := by rw [cell_of HI.out]; rfl
              have i0 := HU.out.cell x0 (by simp)
              have z := HU.out.cell (HLKC.out pc (by omega)).2 (by simp)
              by_cases hs : seenF s pc = true
              · rw [show s.seen.getD pc false = true from hs] at z
                have HSP := Lib.hid hs
                clear hs
                have hn : pc < m.code.length := by omega
                obtain ⟨kb, ko, rfl, hbd, c0, c1, c2, c3⟩ := HKC.out pc hn
                have c0 := HU.out.cell c0 (by simp)
                have c1 := HU.out.cell c1 (by simp)
                have c2 := HU.out.cell c2 (by simp)
                have c3 := HU.out.cell c3 (by simp)
                have hgl : gb + m.code.length < wp.heap.size := by have := lt_of_heap (HT.out.row (m.code.length - 1) (by omega)); omega
                generalize hgx : m.code.getD pc default = x at hbd c0 c1 c2 c3
                obtain ⟨op, a, bb, nn⟩ := x
                simp only at c0 c1 c2 c3
                have HGX := Lib.hid hgx
                clear hgx hbd
                go_upto_region 18 with fail
                have hal := (Upd.refl [] wp).alloc (.cells #[.int .i64 op, .int .i64 a, .int .i64 bb, .int .i64 nn] 24)
                have HX8 := Lib.hid (heap_alloc_new wp (.cells #[.int .i64 op, .int .i64 a, .int .i64 bb, .int .i64 nn] 24))
                have HT8 := Lib.hid (HT.out.upd hal (by simp))
                have HM8 := Lib.hid (hal.heap HM.out (by simp))
                have HI8 := Lib.hid (hal.heap HI.out (by simp))
                have HU8 := Lib.hid (HU.out.trans hal)
                have hs8 : (wp.alloc (.cells #[.int .i64 op, .int .i64 a, .int .i64 bb, .int .i64 nn] 24)).heap.size = wp.heap.size + 1 := by simp
                clear hal HT HM HI HU b3 i2 i0 z c0 c1 c2 c3
                generalize wp.alloc (.cells #[.int .i64 op, .int .i64 a, .int .i64 bb, .int .i64 nn] 24) = w8 at HX8 HT8 HM8 HI8 HU8 hs8 ⊢
                generalize wp.heap.size = xb at HX8 hgl hs8 ⊢
                have b0 : w8.cell? ⟨w.heap.size + 1, 0, none⟩ = some (.string m.params) := by rw [cell_of HM8.out]; rfl
                have b1 : w8.cell? ⟨w.heap.size + 1, 1, none⟩ = some (.string m.locals) := by rw [cell_of HM8.out]; rfl
                have b2 : w8.cell? ⟨w.heap.size + 1, 2, none⟩ = some (.string m.ret) := by rw [cell_of HM8.out]; rfl
                have b3 : w8.cell? ⟨w.heap.size + 1, 3, none⟩ = some (.slice (some ⟨kb, ko, none⟩) m.code.length kc) := by rw [cell_of HM8.out]; rfl
                have HRN := Lib.hid (rnext_any m.params m.locals m.ret _ m.code pc w8 (HCODE.out.upd HU8.out) (by omega))
                go_wp2_with fail
                refine HRN.out.mono ?_
                rintro e w9 ⟨nv, rfl, hown, hu9⟩
                obtain ⟨g, ⟨hform, hcell⟩, hgg⟩ := hown.ints
                obtain ⟨np, nc, rfl, hfm⟩ : ∃ np nc, nv = .slice np (nextL m.code pc).length nc ∧ (nextL m.code pc = [] ∨ (np = some ⟨g, 0, none⟩ ∧ xb < g)) := by
                  rcases hform with ⟨h1, h2⟩ | ⟨cq, h1⟩
                  · exact ⟨none, 0, by rw [h1, h2]; rfl, .inl h2⟩
                  · rcases hgg with h2 | h2
                    · exact ⟨_, cq, h1, .inl h2⟩
                    · exact ⟨_, cq, h1, .inr ⟨rfl, by omega⟩⟩
                have HFM := Lib.hid hfm
                have HN9 := Lib.hid hcell
                have HX9 := Lib.hid (hu9.heap HX8.out (by simp))
                have HT9 := Lib.hid (HT8.out.upd hu9 (by simp))
                have HM9 := Lib.hid (hu9.heap HM8.out (by simp))
                have HI9 := Lib.hid (hu9.heap HI8.out (by simp))
                have HU9 := Lib.hid (HU8.out.trans hu9)
                have hl2 := nextL_two m.code pc
                clear hown hu9 HRN b0 b1 b2 b3 hcell hform hgg hfm HX8 HT8 HM8 HI8 HU8
                go_wp2_with fail
                go_loopw [9, 13, 14, 15] (fun av kv _ _ wr => ∃ (kk : Nat) (ag2 : Bool) (F2 : Nat → Nat → Bool), kk ≤ nk ∧ kv = .int .i64 kk ∧ av = .bool ag2 ∧ Hid (LvIn m.code (seenF s) m.code.length nk F0 F2 ag2) ∧ Hid (ag2 = false → (∀ i, pc + 1 ≤ i → seenF s i = true → ∀ q, ahF m.code (seenF s) nk F0 i q = true → F0 i q = true) ∧ ∀ q, q < kk → ahF m.code (seenF s) nk F0 pc q = true → F0 pc q = true) ∧
                  Hid (MatL wr w.heap.size gb m.code.length nk F2) ∧ Hid (wr.heap[xb]? = some (.cells #[.int .i64 op, .int .i64 a, .int .i64 bb, .int .i64 nn] 24)) ∧ Hid (∀ i, i < (nextL m.code pc).length → wr.cell? ⟨g, i, none⟩ = some (.int .i64 ((nextL m.code pc).getD i 0))) ∧ Hid (wr.heap[w.heap.size + 1]? = some (.cells #[.string m.params, .string m.locals, .string m.ret, .slice (some ⟨kb, ko, none⟩) m.code.length kc] 27)) ∧ Hid (wr.heap[w.heap.size]? = some (.cells #[.slice ca cn cc, .slice (some ⟨bm, mo, none⟩) p.ms.length mc, .slice (some ⟨b, o, none⟩) p.ms.length cap] 49)) ∧ Hid (Upd [] w wr)) (fun _ kv _ _ _ => nk - (intOf kv).toNat)
                case atStart => exact ⟨0, ag, F, by omega, rfl, rfl, HIN.out, (fun ha => ⟨HCL.out ha, fun q hq => by omega⟩), HT9.out, HX9.out, HN9.out, HM9.out, HI9.out, HU9.out⟩
                case round =>
                  clear HT9 HX9 HN9 HM9 HI9 HU9 HIN HCL
                  obtain ⟨kk, ag2, F2, hkk, rfl, rfl, HIN2, HC2, HT2, HX2, HN2, HM2, HI2, HU2⟩ := hrel
                  obtain ⟨wq, rfl⟩ : ∃ wq : World, wq = wr := ⟨_, rfl⟩
                  by_cases hkl : kk < nk
                  · have y0 : wq.cell? ⟨xb, 0, none⟩ = some (.int .i64 op) := by rw [cell_of HX2.out]; rfl
                    have y1 : wq.cell? ⟨xb, 1, none⟩ = some (.int .i64 a) := by rw [cell_of HX2.out]; rfl
                    have HN0 : Hid (nowF m.code (seenF s) F2 pc kk 0 = (decide (op = 3) && decide (a = (kk : Int)))) := by
                      show _ = _
                      unfold nowF
                      rw [HGX.out, List.take_zero, List.any_nil, Bool.or_false]
                    go_upto_region 22 with fail
                    go_cut [14] from 77 to 138 (fun nv wx => nv = .bool (nowF m.code (seenF s) F2 pc kk 0) ∧ Hid (Upd [] wq wx))
                    case first =>
                      by_cases h3 : op = 3
                      · subst h3
                        by_cases ha : a = (kk : Int)
                        · subst ha
                          go_wp2_with fail
                          go_meet
                          exact ⟨by rw [HN0.out]; simp, Upd.refl _ _⟩
                        · have da : (a == (kk : Int)) = false := by rw [beq_eq_false_iff_ne]; exact ha
                          have HA := Lib.hid ha
                          clear ha
                          go_wp2_with fail
                          go_meet
                          exact ⟨by rw [HN0.out, decide_eq_false HA.out]; simp, Upd.refl _ _⟩
                      · have d3 : (op == 3) = false := by rw [beq_eq_false_iff_ne]; exact h3
                        have H3 := Lib.hid h3
                        clear h3
                        go_wp2_with fail
                        go_meet
                        exact ⟨by rw [HN0.out, decide_eq_false H3.out]; simp, Upd.refl _ _⟩
                    case rest =>
                      obtain ⟨rfl, HV⟩ := hcut
                      obtain ⟨w5, rfl⟩ : ∃ w5 : World, w5 = wc := ⟨_, rfl⟩
                      clear y0 y1 HN0
                      go_wp2_with fail
                      go_loopw [14, 15] (fun nv jv wr => ∃ jj : Nat, jj ≤ (nextL m.code pc).length ∧ jv = .int .i64 jj ∧ nv = .bool (nowF m.code (seenF s) F2 pc kk jj) ∧ Hid (op = 4 ∧ a = (kk : Int) → jj = 0) ∧ Hid (Upd [] wq wr)) (fun _ jv _ => (nextL m.code pc).length - (intOf jv).toNat)
                      case atStart => exact ⟨0, by omega, rfl, rfl, (fun _ => rfl), HV.out⟩
                      case round =>
                        clear HV
                        obtain ⟨jj, hjj, rfl, rfl, HJ0, HV6⟩ := hrel
                        obtain ⟨w6, rfl⟩ : ∃ w6 : World, w6 = wr := ⟨_, rfl⟩
                        have HT6 := Lib.hid (HT2.out.upd HV6.out (by simp))
                        have HX6 := Lib.hid (HV6.out.heap HX2.out (by simp))
                        have HM6 := Lib.hid (HV6.out.heap HM2.out (by simp))
                        have HI6 := Lib.hid (HV6.out.heap HI2.out (by simp))
                        have HU6 := Lib.hid (HU2.out.trans HV6.out)
                        have HN6 : Hid (∀ i, i < (nextL m.code pc).length → w6.cell? ⟨g, i, none⟩ = some (.int .i64 ((nextL m.code pc).getD i 0))) := fun i hi => HV6.out.cell (HN2.out i hi) (by simp)
                        have y0 : w6.cell? ⟨xb, 0, none⟩ = some (.int .i64 op) := by rw [cell_of HX6.out]; rfl
                        have y1 : w6.cell? ⟨xb, 1, none⟩ = some (.int .i64 a) := by rw [cell_of HX6.out]; rfl
                        by_cases hst : op = 4 ∧ a = (kk : Int)
                        · obtain rfl := HJ0.out hst
                          obtain ⟨rfl, rfl⟩ := hst
                          have HS := Lib.hid (nowF_store (xs := m.code) (seen := seenF s) (nk := nk) (F := F2) (pc := pc) (k := kk) (by rw [HGX.out]; exact ⟨rfl, rfl⟩))
                          rw [HS.out.2]
                          have HCN : Hid (ag2 = false → (∀ i, pc + 1 ≤ i → seenF s i = true → ∀ q, ahF m.code (seenF s) nk F0 i q = true → F0 i q = true) ∧ ∀ q, q < kk + 1 → ahF m.code (seenF s) nk F0 pc q = true → F0 pc q = true) := fun ha => by
                            refine ⟨(HC2.out ha).1, fun q hq h => ?_⟩
                            by_cases e : q = kk
                            · subst e
                              have e2 := HIN2.out.same ha
                              rw [← e2] at h ⊢
                              rw [HS.out.1] at h; cases h
                            · exact (HC2.out ha).2 q (by omega) h
                          by_cases hl0 : 0 < (nextL m.code pc).length
                          · go_wp2_with fail
                            go_roundw
                            case rel => exact ⟨kk + 1, ag2, F2, by omega, by go_num, rfl, HIN2.out, HCN.out, HT6.out, HX6.out, HN6.out, HM6.out, HI6.out, HU6.out⟩
                            case measure => simp [intOf]; omega
                          · have hl1 : (nextL m.code pc).length = 0 := by omega
                            clear hl0
                            go_wp2_with fail
                            go_roundw
                            case rel => exact ⟨kk + 1, ag2, F2, by omega, by go_num, rfl, HIN2.out, HCN.out, HT6.out, HX6.out, HN6.out, HM6.out, HI6.out, HU6.out⟩
                            case measure => simp [intOf]; omega
                        · have HNS := Lib.hid hst
                          have HNS2 : Hid (¬ ((m.code.getD pc default).op = 4 ∧ (m.code.getD pc default).a = (kk : Int))) := by rw [HGX.out]; exact hst
                          have hd : (op == 4) = false ∨ ((op == 4) = true ∧ (a == (kk : Int)) = false) := by
                            by_cases h4 : op = 4
                            · right
                              exact ⟨by rw [beq_iff_eq]; exact h4, by rw [beq_eq_false_iff_ne]; exact fun e => hst ⟨h4, e⟩⟩
                            · left
                              rw [beq_eq_false_iff_ne]; exact h4
                          clear hst
                          rcases hd with d4 | ⟨d4, da⟩
                          · by_cases hjl : jj < (nextL m.code pc).length
                            · obtain ⟨qi, hqi⟩ : ∃ qi : Nat, (nextL m.code pc).getD jj 0 = (qi : Int) := Int.eq_ofNat_of_zero_le (HP.out.next HSP.out (by rw [List.getD_eq_getElem?_getD, List.getElem?_eq_getElem hjl]; exact List.getElem_mem hjl : (nextL m.code pc).getD jj 0 ∈ nextL m.code pc)).1
                              have hnx := HP.out.next HSP.out (by rw [List.getD_eq_getElem?_getD, List.getElem?_eq_getElem hjl]; exact List.getElem_mem hjl : (nextL m.code pc).getD jj 0 ∈ nextL m.code pc)
                              rw [hqi, Int.toNat_natCast] at hnx
                              have hql : qi < m.code.length := by omega
                              have k0 := HN6.out jj hjl
                              rw [hqi] at k0
                              have HSTEP := Lib.hid (nowF_step (F := F2) (k := kk) hjl qi hqi hql hnx.2.2)
                              have hhd := HT6.out.head qi hql
                              have hcl := HT6.out.cell qi kk hql hkl
                              obtain rfl : np = some ⟨g, 0, none⟩ := by
                                rcases HFM.out with h | h
                                · rw [h] at hjl; simp at hjl
                                · exact h.1
                              have HQI := Lib.hid hqi
                              have hq7 := hnx.1
                              clear hqi hnx
                              cases hnow : nowF m.code (seenF s) F2 pc kk jj with
                              | true =>
                                rw [hnow, Bool.true_or] at HSTEP
                                clear hnow
                                go_wp2_with fail
                                go_roundw
                                case rel => exact ⟨jj + 1, by omega, by go_num, by rw [HSTEP.out], (fun h => absurd h HNS.out), HV6.out⟩
                                case measure => simp [intOf]; omega
                              | false =>
                                rw [hnow, Bool.false_or] at HSTEP
                                clear hnow
                                go_wp2_with fail
                                go_roundw
                                case rel => exact ⟨jj + 1, by omega, by go_num, by rw [HSTEP.out], (fun h => absurd h HNS.out), HV6.out⟩
                                case measure => simp [intOf]; omega
                            · obtain rfl : jj = (nextL m.code pc).length := by omega
                              have HEND := Lib.hid (nowF_end (seen := seenF s) (F := F2) (nk := nk) hkl HNS2.out)
                              have hhd := HT6.out.head pc hn
                              have hcl := HT6.out.cell pc kk hn hkl
                              rw [HEND.out]
                              cases hah : ahF m.code (seenF s) nk F2 pc kk with
                              | false =>
                                have HAH := Lib.hid hah
                                clear hah
                                have HCN : Hid (ag2 = false → (∀ i, pc + 1 ≤ i → seenF s i = true → ∀ q, ahF m.code (seenF s) nk F0 i q = true → F0 i q = true) ∧ ∀ q, q < kk + 1 → ahF m.code (seenF s) nk F0 pc q = true → F0 pc q = true) := fun ha => by
                                  refine ⟨(HC2.out ha).1, fun q hq h => ?_⟩
                                  by_cases e : q = kk
                                  · subst e
                                    have e2 := HIN2.out.same ha
                                    rw [← e2] at h ⊢
                                    rw [HAH.out] at h; cases h
                                  · exact (HC2.out ha).2 q (by omega) h
                                go_wp2_with fail
                                go_roundw
                                case rel => exact ⟨kk + 1, ag2, F2, by omega, by go_num, rfl, HIN2.out, HCN.out, HT6.out, HX6.out, HN6.out, HM6.out, HI6.out, HU6.out⟩
                                case measure => simp [intOf]; omega
                              | true =>
                                have HAH := Lib.hid hah
                                clear hah
                                cases hf : F2 pc kk with
                                | true =>
                                  rw [hf] at hcl
                                  have HF := Lib.hid hf
                                  clear hf
                                  have HCN : Hid (ag2 = false → (∀ i, pc + 1 ≤ i → seenF s i = true → ∀ q, ahF m.code (seenF s) nk F0 i q = true → F0 i q = true) ∧ ∀ q, q < kk + 1 → ahF m.code (seenF s) nk F0 pc q = true → F0 pc q = true) := fun ha => by
                                    refine ⟨(HC2.out ha).1, fun q hq h => ?_⟩
                                    by_cases e : q = kk
                                    · subst e
                                      have e2 := HIN2.out.same ha
                                      rw [← e2] at h ⊢
                                      exact HF.out
                                    · exact (HC2.out ha).2 q (by omega) h
                                  go_wp2_with fail
                                  go_roundw
                                  case rel => exact ⟨kk + 1, ag2, F2, by omega, by go_num, rfl, HIN2.out, HCN.out, HT6.out, HX6.out, HN6.out, HM6.out, HI6.out, HU6.out⟩
                                  case measure => simp [intOf]; omega
                                | false =>
                                  rw [hf] at hcl
                                  have hfz := froz_of (HT6.out.row pc hn) kk
                                  have hst := heap_setCell (HT6.out.row pc hn) kk (.bool true)
                                  rw [bcells_set] at hst
                                  have hu := (Upd.refl [gb + 1 + pc] w6).setCell (p := ⟨gb + 1 + pc, kk, none⟩) (.inl (by simp)) (.bool true)
                                  have HTN := Lib.hid (HT6.out.set pc kk hn hu hst)
                                  have HINN := Lib.hid (HIN2.out.put hn hkl HSP.out HAH.out hf)
                                  have HXN := Lib.hid (hu.heap HX6.out (by simp; omega))
                                  have HMN := Lib.hid (hu.heap HM6.out (by simp; omega))
                                  have HIB := Lib.hid (hu.heap HI6.out (by simp; omega))
                                  have HUN := Lib.hid (HU6.out.trans' hu (fun q hq hl => by rw [List.mem_singleton] at hq; omega))
                                  have HNN : Hid (∀ i, i < (nextL m.code pc).length → (w6.setCell ⟨gb + 1 + pc, kk, none⟩ (.bool true)).cell? ⟨g, i, none⟩ = some (.int .i64 ((nextL m.code pc).getD i 0))) := fun i hi => hu.cell (HN6.out i hi) (by
                                    rcases HFM.out with h | h
                                    · rw [h] at hi; simp at hi
                                    · have := h.2; simp; omega)
                                  clear hst hu hf
                                  go_wp2_with fail
                                  go_roundw
                                  case rel => exact ⟨kk + 1, true, _, by omega, by go_num, rfl, HINN.out, (fun h => by cases h), HTN.out, HXN.out, HNN.out, HMN.out, HIB.out, HUN.out⟩
                                  case measure => simp [intOf]; omega
                          · by_cases hjl : jj < (nextL m.code pc).length
                            · obtain ⟨qi, hqi⟩ : ∃ qi : Nat, (nextL m.code pc).getD jj 0 = (qi : Int) := Int.eq_ofNat_of_zero_le (HP.out.next HSP.out (by rw [List.getD_eq_getElem?_getD, List.getElem?_eq_getElem hjl]; exact List.getElem_mem hjl : (nextL m.code pc).getD jj 0 ∈ nextL m.code pc)).1
                              have hnx := HP.out.next HSP.out (by rw [List.getD_eq_getElem?_getD, List.getElem?_eq_getElem hjl]; exact List.getElem_mem hjl : (nextL m.code pc).getD jj 0 ∈ nextL m.code pc)
                              rw [hqi, Int.toNat_natCast] at hnx
                              have hql : qi < m.code.length := by omega
                              have k0 := HN6.out jj hjl
                              rw [hqi] at k0
                              have HSTEP := Lib.hid (nowF_step (F := F2) (k := kk) hjl qi hqi hql hnx.2.2)
                              have hhd := HT6.out.head qi hql
                              have hcl := HT6.out.cell qi kk hql hkl
                              obtain rfl : np = some ⟨g, 0, none⟩ := by
                                rcases HFM.out with h | h
                                · rw [h] at hjl; simp at hjl
                                · exact h.1
                              have HQI := Lib.hid hqi
                              have hq7 := hnx.1
                              clear hqi hnx
                              cases hnow : nowF m.code (seenF s) F2 pc kk jj with
                              | true =>
                                rw [hnow, Bool.true_or] at HSTEP
                                clear hnow
                                go_wp2_with fail
                                go_roundw
                                case rel => exact ⟨jj + 1, by omega, by go_num, by rw [HSTEP.out], (fun h => absurd h HNS.out), HV6.out⟩
                                case measure => simp [intOf]; omega
                              | false =>
                                rw [hnow, Bool.false_or] at HSTEP
                                clear hnow
                                go_wp2_with fail
                                go_roundw
                                case rel => exact ⟨jj + 1, by omega, by go_num, by rw [HSTEP.out], (fun h => absurd h HNS.out), HV6.out⟩
                                case measure => simp [intOf]; omega
                            · obtain rfl : jj = (nextL m.code pc).length := by omega
                              have HEND := Lib.hid (nowF_end (seen := seenF s) (F := F2) (nk := nk) hkl HNS2.out)
                              have hhd := HT6.out.head pc hn
                              have hcl := HT6.out.cell pc kk hn hkl
                              rw [HEND.out]
                              cases hah : ahF m.code (seenF s) nk F2 pc kk with
                              | false =>
                                have HAH := Lib.hid hah
                                clear hah
                                have HCN : Hid (ag2 = false → (∀ i, pc + 1 ≤ i → seenF s i = true → ∀ q, ahF m.code (seenF s) nk F0 i q = true → F0 i q = true) ∧ ∀ q, q < kk + 1 → ahF m.code (seenF s) nk F0 pc q = true → F0 pc q = true) := fun ha => by
                                  refine ⟨(HC2.out ha).1, fun q hq h => ?_⟩
                                  by_cases e : q = kk
                                  · subst e
                                    have e2 := HIN2.out.same ha
                                    rw [← e2] at h ⊢
                                    rw [HAH.out] at h; cases h
                                  · exact (HC2.out ha).2 q (by omega) h
                                go_wp2_with fail
                                go_roundw
                                case rel => exact ⟨kk + 1, ag2, F2, by omega, by go_num, rfl, HIN2.out, HCN.out, HT6.out, HX6.out, HN6.out, HM6.out, HI6.out, HU6.out⟩
                                case measure => simp [intOf]; omega
                              | true =>
                                have HAH := Lib.hid hah
                                clear hah
                                cases hf : F2 pc kk with
                                | true =>
                                  rw [hf] at hcl
                                  have HF := Lib.hid hf
                                  clear hf
                                  have HCN : Hid (ag2 = false → (∀ i, pc + 1 ≤ i → seenF s i = true → ∀ q, ahF m.code (seenF s) nk F0 i q = true → F0 i q = true) ∧ ∀ q, q < kk + 1 → ahF m.code (seenF s) nk F0 pc q = true → F0 pc q = true) := fun ha => by
                                    refine ⟨(HC2.out ha).1, fun q hq h => ?_⟩
                                    by_cases e : q = kk
                                    · subst e
                                      have e2 := HIN2.out.same ha
                                      rw [← e2] at h ⊢
                                      exact HF.out
                                    · exact (HC2.out ha).2 q (by omega) h
                                  go_wp2_with fail
                                  go_roundw
                                  case rel => exact ⟨kk + 1, ag2, F2, by omega, by go_num, rfl, HIN2.out, HCN.out, HT6.out, HX6.out, HN6.out, HM6.out, HI6.out, HU6.out⟩
                                  case measure => simp [intOf]; omega
                                | false =>
                                  rw [hf] at hcl
                                  have hfz := froz_of (HT6.out.row pc hn) kk
                                  have hst := heap_setCell (HT6.out.row pc hn) kk (.bool true)
                                  rw [bcells_set] at hst
                                  have hu := (Upd.refl [gb + 1 + pc] w6).setCell (p := ⟨gb + 1 + pc, kk, none⟩) (.inl (by simp)) (.bool true)
                                  have HTN := Lib.hid (HT6.out.set pc kk hn hu hst)
                                  have HINN := Lib.hid (HIN2.out.put hn hkl HSP.out HAH.out hf)
                                  have HXN := Lib.hid (hu.heap HX6.out (by simp; omega))
                                  have HMN := Lib.hid (hu.heap HM6.out (by simp; omega))
                                  have HIB := Lib.hid (hu.heap HI6.out (by simp; omega))
                                  have HUN := Lib.hid (HU6.out.trans' hu (fun q hq hl => by rw [List.mem_singleton] at hq; omega))
                                  have HNN : Hid (∀ i, i < (nextL m.code pc).length → (w6.setCell ⟨gb + 1 + pc, kk, none⟩ (.bool true)).cell? ⟨g, i, none⟩ = some (.int .i64 ((nextL m.code pc).getD i 0))) := fun i hi => hu.cell (HN6.out i hi) (by
                                    rcases HFM.out with h | h
                                    · rw [h] at hi; simp at hi
                                    · have := h.2; simp; omega)
                                  clear hst hu hf
                                  go_wp2_with fail
                                  go_roundw
                                  case rel => exact ⟨kk + 1, true, _, by omega, by go_num, rfl, HINN.out, (fun h => by cases h), HTN.out, HXN.out, HNN.out, HMN.out, HIB.out, HUN.out⟩
                                  case measure => simp [intOf]; omega
                  · obtain rfl : kk = nk := by omega
                    have HCN : Hid (ag2 = false → ∀ i, pc ≤ i → seenF s i = true → ∀ q, ahF m.code (seenF s) kk F0 i q = true → F0 i q = true) := fun ha i hi hs q h => by
                      by_cases e : i = pc
                      · subst e
                        exact (HC2.out ha).2 q (ah_sup HSU.out h) h
                      · exact (HC2.out ha).1 i (by omega) hs q h
                    go_wp2_with fail
                    go_roundw
                    case rel => exact ⟨pc, ag2, F2, by omega, by go_num, rfl, HIN2.out, HCN.out, HT2.out, HM2.out, HI2.out, HU2.out⟩
                    case measure => simp [intOf]
              · rw [show s.seen.getD pc false = false from (by simpa using hs : seenF s pc = false)] at z
                have HSP := Lib.hid hs
                clear hs
                go_wp2_with fail
                go_roundw
                case rel => exact ⟨pc, ag, F, by omega, by go_num, rfl, HIN.out, (fun ha i hi hs => by
                  by_cases e : i = pc
                  · subst e; exact absurd hs HSP.out
                  · exact HCL.out ha i (by omega) hs), HT.out, HM.out, HI.out, HU.out⟩
                case measure => simp [intOf]
end Go.Proofs.YtpmfbhoochogoaaGreatDoor

/-! live.Map.Refs; a map of no method. -/
/-! live.Map.Refs; a map of no method. -/
namespace Go.Proofs.YtpmfbhoochogoaaGreatDoor
open Go.RowKit

theorem refsL_pos : ∀ (l : List UInt8) (k : Nat), ∀ x ∈ refsL l k, 0 ≤ x
  | [], _, _, h => by cases h
  | c :: l, k, x, h => by
    have e : refsL (c :: l) k = (if c = lR then [(k : Int)] else []) ++ refsL l (k + 1) := rfl
    rw [e, List.mem_append] at h
    rcases h with h | h
    · split at h
      · rw [List.mem_singleton] at h; omega
      · cases h
    · exact refsL_pos l (k + 1) x h

/-- The answer is asked once more. -/
theorem LvD.asked {W0 w w' : World} {mb ib : Nat} {p : Prg} {ss : List Lk} {n0 n : Int} {k : Nat} {m : Meth} {s : Lk} {B lb : Nat} {kv : Value} {F : Nat → Nat → Bool} {bk gk : Nat → Nat} (h : LvD W0 w mb ib p ss n0 n k m s B lb kv F bk gk) (hu : Upd [ib] w w') (hi : InfoAs w w' ib p ss n) : LvD W0 w' mb ib p ss n0 (n + 1) k m s B lb kv F bk gk := by
  obtain ⟨cv, mv, lv, hb, hc, hm, hl⟩ := h.info.now
  have off : ∀ (q : Nat) (z : Array Value) (t : TypeId), t ≠ 104 → w.heap[q]? = some (.cells z t) → q ∉ [ib] := fun q z t ht hq hm => by
    rw [List.mem_singleton] at hm
    exact heap_ne hq hb ht hm
  have htz : 10 ∉ [ib] := fun hm => by
    rw [List.mem_singleton] at hm
    have h2 := h.inn.tz 0 (by decide)
    obtain ⟨_, _, rfl, _⟩ := hc
    rw [hm, cell_of hb] at h2
    cases h2
  refine ⟨⟨hu.heap h.inn.box (off _ _ _ (by decide) h.inn.box), h.inn.code.off hu h.info.now.no_ins, h.inn.sets.upd hu (off _ _ _ (by decide) h.inn.sets.tab) (fun i hi hs => ?_), h.inn.tz.upd hu htz, h.inn.kinds, h.inn.par, h.inn.loc, h.inn.few, h.inn.next⟩, h.live, h.info.step hu hi.st⟩
  obtain ⟨ws, h3, _⟩ := h.inn.sets.set i hi hs
  exact ⟨off _ _ _ (by decide) h3.2.1, off _ _ _ (by decide) h3.1⟩

/-- The slots that are references and count. -/
noncomputable def lrefL (m : Meth) (s : Lk) (i : Nat) : List Int := if seenF s i = true then (refsL (kindsL m ++ s.stk.getD i []) 0).filter (fun x => decide (((kindsL m).length : Int) ≤ x) || hasG m s i x) else []

theorem filter_take (f : Int → Bool) (L : List Int) (j : Nat) (h : j < L.length) : (L.take (j + 1)).filter f = (L.take j).filter f ++ if f (L.getD j 0) = true then [L.getD j 0] else [] := by
  rw [List.take_succ_eq_append_getElem h, List.filter_append, List.getD_eq_getElem?_getD, List.getElem?_eq_getElem h]
  congr 1
  by_cases e : f L[j] = true
  · simp [e]
  · simp [e]

set_option maxRecDepth 100000 in
set_option maxHeartbeats 4000000 in
theorem lrefs_any (W0 : World) (mb ib : Nat) (p : Prg) (ss : List Lk) (n0 n : Int) (k : Nat) (m : Meth) (s : Lk) (i : Nat) (w : World) (hP : LvP p ss k m s) (hw0 : W0.heap.size ≤ mb) (h0 : 0 ≤ n) (h1 : n ≤ 900000000) (hi : i < m.code.length)
    (h : LvNew W0 w mb ib p ss n0 n k ∨ ∃ B lb kv F bk gk, LvD W0 w mb ib p ss n0 n k m s B lb kv F bk gk) :
    Calls Tryz.prog 46 #[.pointer (some ⟨mb, 0, none⟩), .int .i64 i] w fun e w' => ∃ n' u, n ≤ n' ∧ n' ≤ n + 121 ∧ (∃ B lb kv F bk gk, LvD W0 w' mb ib p ss n0 n' k m s B lb kv F bk gk) ∧ Upd [mb, ib] w w' ∧ e = .returned u ∧ OwnI w' w.heap.size 3 u (lrefL m s i) := by
  obtain ⟨i0, hi0, hz0, hy1, hy2⟩ := info_parts Tryz.infoInt
  have HII := Lib.hid hi0
  have HZ0 := Lib.hid hz0
  have HY1 := Lib.hid hy1
  have HY2 := Lib.hid hy2
  clear hi0 hz0 hy1 hy2
  have HAT := Lib.hid (at_any2 W0 mb ib p ss n0 n k m s i w hP hw0 h0 h1 h)
  have HP := Lib.hid hP
  have hwib : ib < w.heap.size ∧ mb < w.heap.size := by
    rcases h with h | ⟨_, _, _, _, _, _, h⟩
    · obtain ⟨_, _, _, hb, _⟩ := h.info.now
      exact ⟨lt_of_heap hb, lt_of_heap h.box⟩
    · obtain ⟨_, _, _, hb, _⟩ := h.info.now
      exact ⟨lt_of_heap hb, lt_of_heap h.inn.box⟩
  clear h hP
  go_enter Tryz.func46, Tryz.ntmps46
  go_wp2_with fail
  refine HAT.out.mono ?_
  rintro e w1 ⟨n1, B, lb, kv, F, bk, gk, rfl, hn1, hn2, hD, hu⟩
  have HU := Lib.hid hu
  have HD := Lib.hid hD
  clear hu hD HAT
  by_cases hs : seenF s i = true
  · have hv : atP m.code.length (seenF s) bk (i : Int) = .pointer (some ⟨bk i, 0, none⟩) := by
      unfold atP ptrV
      rw [if_pos ⟨by omega, by omega⟩, Int.toNat_natCast, if_pos hs]
    rw [hv]
    have HR : Hid (lrefL m s i = (refsL (kindsL m ++ s.stk.getD i []) 0).filter (fun x => decide (((kindsL m).length : Int) ≤ x) || hasG m s i x)) := by
      show _ = _
      unfold lrefL
      rw [if_pos hs]
    have HSI := Lib.hid hs
    clear hv hs
    have hb := HD.out.inn.box
    obtain ⟨ka, kc, hkv, _⟩ := id HD.out.inn.code
    subst hkv
    have m0 : w1.cell? ⟨mb, 0, none⟩ = some (.pointer (some ⟨ib, 0, none⟩)) := by rw [cell_of hb]; rfl
    have m1 : w1.cell? ⟨mb, 1, none⟩ = some (.int .i64 k) := by rw [cell_of hb]; rfl
    have m5 : w1.cell? ⟨mb, 5, none⟩ = some (.string m.params) := by rw [cell_of hb]; rfl
    have m6 : w1.cell? ⟨mb, 6, none⟩ = some (.string m.locals) := by rw [cell_of hb]; rfl
    have m7 : w1.cell? ⟨mb, 7, none⟩ = some (.string m.ret) := by rw [cell_of hb]; rfl
    have m8 : w1.cell? ⟨mb, 8, none⟩ = some (.slice ka m.code.length kc) := by rw [cell_of hb]; rfl
    have hpar := HD.out.inn.par
    have hloc := HD.out.inn.loc
    have hmi : mb ≠ ib := by
      obtain ⟨_, _, _, hbi, _⟩ := HD.out.info.now
      exact heap_ne hb hbi (by decide)
    clear hb
    go_wp2_with fail
    refine (kinds_any m (.slice ka m.code.length kc) w1 (by omega) (by omega)).mono ?_
    rintro e w2 ⟨rfl, hu2⟩
    have HD2 := Lib.hid (HD.out.upd hu2)
    have HU2 := Lib.hid (HU.out.trans (hu2.mono (T := [mb, ib]) (by simp)))
    have m0 := hu2.cell m0 (by simp)
    have m1 := hu2.cell m1 (by simp)
    clear hu2 HD HU m5 m6 m7 m8
    have hksz : (bs (kindsL m)).size = (kindsL m).length := bs_size _
    have hkle : (kindsL m).length ≤ 24 := by
      have : (kindsL m).length = m.params.size + m.locals.size := by
        unfold kindsL
        rw [List.length_append, ← size_list, ← size_list]
      omega
    have HLK := Lib.hid HP.out.look1
    have hst12 : (s.stk.getD i []).length ≤ 12 := by
      obtain ⟨_, _, _, h, _⟩ := Lk.at_next (by omega) HP.out.look1 (show s.At i _ from ⟨HSI.out, rfl⟩)
      exact h
    have hkl := HP.out.lt
    have hll : (kindsL m ++ s.stk.getD i []).length ≤ 36 := by rw [List.length_append]; omega
    have HASC : Hid (∀ c ∈ kindsL m ++ s.stk.getD i [], c.toNat < 128) := by
      have h1 := HP.out.ok.asc hkl
      have h2 := look_asc HP.out.ok hkl (HP.out.look k hkl) i
      rw [← HP.out.meth] at h1
      rw [← HP.out.lk] at h2
      exact h1.app h2
    have HRF := Lib.hid (refs_in2 ib p ss n1 k i w2.drew (HD2.out.info.now.upd (Upd.refl [] w2).drew) HP.out.len hkl (by rw [← HP.out.meth]; have := HD2.out.inn.few; omega) (by omega) (by omega) (by rw [← HP.out.meth]; exact hi) (by rw [← HP.out.lk]; exact HSI.out) _ (by rw [← HP.out.meth, ← HP.out.lk]) (by omega) HASC.out (by rw [← HP.out.meth]; omega) (by rw [← HP.out.meth]; omega))
    have d0 : w2.drew.cell? ⟨mb, 0, none⟩ = some (.pointer (some ⟨ib, 0, none⟩)) := (Upd.refl [] w2).drew.cell m0 (by simp)
    have d1 : w2.drew.cell? ⟨mb, 1, none⟩ = some (.int .i64 k) := (Upd.refl [] w2).drew.cell m1 (by simp)
    have HRP : Hid (∀ x ∈ refsL (kindsL m ++ s.stk.getD i []) 0, 0 ≤ x) := refsL_pos _ _
    have hrl : (refsL (kindsL m ++ s.stk.getD i []) 0).length ≤ 36 := Nat.le_trans (refsL_le _ _) hll
    clear HASC hst12
    generalize refsL (kindsL m ++ s.stk.getD i []) 0 = R at HRF HR HRP hrl
    clear hll
    go_wp2_with fail
    go_region_held3 (fun w' => w'.cell? ⟨mb, 0, none⟩ = some (.pointer (some ⟨ib, 0, none⟩)) ∧ w'.cell? ⟨mb, 1, none⟩ = some (.int .i64 k))
      (first | exact ⟨d0, d1⟩ | exact ⟨e0, e1⟩ | exact ⟨m0, m1⟩)
      ((go_at_call 72; refine HRF.out.mono ?_; rintro e w3 ⟨u, rfl, hown, has, hu3⟩; have e0 := hu3.cell d0 (by simp; exact hmi); have e1 := hu3.cell d1 (by simp; exact hmi); obtain ⟨up, uc, rfl⟩ := hown.shape))
    rename_i hheld
    clear hheld
    have HD3 : Hid (LvD W0 w3 mb ib p ss n0 (n1 + 1) k m s B lb (.slice ka m.code.length kc) F bk gk) := (HD2.out.upd (Upd.refl [] w2).drew).asked hu3 has
    have HU3 : Hid (Upd [mb, ib] w w3) := (HU2.out.trans ((Upd.refl [] w2).drew.mono (T := [mb, ib]) (by simp))).trans (hu3.mono (T := [mb, ib]) (fun _ h _ => by rw [List.mem_singleton] at h; simp [h]))
    have HR3 := Lib.hid hown
    have hs3 := HU3.out.size
    clear d0 d1 e0 e1 m0 m1 hown has hu3 HRF HD2 HU2
    have HLG : Hid (∀ x : Nat, hasG m s (i : Int) (x : Int) = liveG m.code (seenF s) i x) := fun x => by
      unfold hasG
      rw [decide_eq_true (by omega), Bool.true_and, Int.toNat_natCast, Int.toNat_natCast]
    generalize hff : (fun x : Int => decide (((kindsL m).length : Int) ≤ x) || hasG m s i x) = f at HR
    have HFF : Hid (∀ x, f x = (decide (((kindsL m).length : Int) ≤ x) || hasG m s i x)) := fun x => by rw [← hff]
    clear hff
    go_wp2_with fail
    go_loopw [7, 9, 32] (fun v _ iv wr => ∃ j : Nat, j ≤ R.length ∧ iv = .int .i64 j ∧ Hid (OwnI wr w.heap.size 3 v ((R.take j).filter f)) ∧ Hid (∀ q, v.ownBlock = some q → w3.heap.size ≤ q) ∧ Hid (Upd [] w3 wr)) (fun _ _ iv _ => R.length - (intOf iv).toNat)
    case atStart => exact ⟨0, by omega, rfl, OwnI.nil _ _ _, (fun q h => by simp [Value.ownBlock] at h), Upd.refl _ _⟩
    case round =>
      obtain ⟨j, hj, rfl, HX, HB, HU⟩ := hrel
      obtain ⟨wo, rfl⟩ : ∃ wo : World, wo = wr := ⟨_, rfl⟩
      obtain ⟨vp, vc, hv⟩ := HX.out.shape
      by_cases hlt : j < R.length
      · have hcl : ∃ gn, up = some ⟨gn, 0, none⟩ ∧ wo.cell? ⟨gn, j, none⟩ = some (.int .i64 (R.getD j 0)) := by
          rcases (HR3.out.upd HU.out (by simp)).form with ⟨h1, h2⟩ | ⟨g, c, h1, _, _, _, h5⟩
          · rw [h2] at hlt; simp at hlt
          · injection h1 with h1
            exact ⟨g, h1, h5 j hlt⟩
        obtain ⟨gn, rfl, hcx⟩ := hcl
        have HT := Lib.hid (filter_take f R j hlt)
        have hLl : ((R.take j).filter f).length ≤ 36 := by
          have h1 := List.length_filter_le f (R.take j)
          rw [List.length_take] at h1
          omega
        have hx0 : 0 ≤ R.getD j 0 := HRP.out _ (by rw [List.getD_eq_getElem?_getD, List.getElem?_eq_getElem hlt]; exact List.getElem_mem hlt)
        obtain ⟨xn, hxn⟩ := Int.eq_ofNat_of_zero_le hx0
        have hx36 : True := trivial
        clear hx0 hx36
        rw [hxn] at hcx HT
        clear hxn
        obtain ⟨x, hx⟩ : ∃ x : Int, x = (xn : Int) := ⟨_, rfl⟩
        generalize hL : ((R.take j).filter f).length = M at hv hLl
        subst hv
        have HL := Lib.hid hL
        clear hL
        by_cases hge : (kindsL m).length ≤ xn
        · have HF : Hid (f x = true) := by
            show _ = _
            rw [HFF.out, hx, decide_eq_true (by omega), Bool.true_or]
          rw [← hx] at hcx HT
          have hge2 : ((kindsL m).length : Int) ≤ x := by omega
          clear hge hx
          have HT3 : Hid ((R.take (j + 1)).filter f = (R.take j).filter f ++ [x]) := by
            have := HT.out
            rwa [if_pos HF.out] at this
          clear HT
          go_wp2_with (at_builtin; refine stop_here ?_)
          refine Hid.mk ?_
          have hrow : (wo.alloc (.cells #[.int .i64 x] 3)).ownsRow w.heap.size 3 1 (.slice vp M vc) M (((R.take j).filter f).map (Value.int .i64)) := by
            have h := row_upd HX.out ((Upd.refl [] wo).alloc (.cells #[.int .i64 x] 3)) (by simp)
            rwa [HL.out] at h
          have hsw := HU.out.size
          refine (wpList_append_src rfl _ _ 42 rfl w.heap.size 3 i0 _ 1 8 Tryz.underlying42 HII.out HZ0.out HY1.out HY2.out rfl (by decide) _ _ _ rfl hrow _ 1 ([x].map (Value.int .i64)) rfl (.inr ⟨_, _, rfl, fun y u hu => by
            rw [Addr.add_lit, Nat.zero_add, cell_of (heap_alloc_new wo _)]
            show (([x].map (Value.int .i64)).toArray)[y]? = some u
            rw [List.getElem?_toArray]
            exact hu⟩) rfl (oneI _) (by unfold maxLen; omega) (by omega) (by simp; omega) ?_)
          intro v' w7 hown hgr hob
          have hown2 : w7.ownsRow w.heap.size 3 1 v' (((R.take j).filter f).length + 1) (((R.take j).filter f).map (Value.int .i64) ++ [.int .i64 x]) := by rw [HL.out]; exact hown
          obtain ⟨hP, hW, hB⟩ := HX.out.push hown2 hgr
          rw [← HT3.out] at hP
          have HPU := Lib.hid hP
          have HU7 := Lib.hid (HU.out.trans' hW (fun q hq hl => by have := HB.out q (Option.mem_toList.1 hq); omega))
          have HB7 : Hid (∀ q, v'.ownBlock = some q → w3.heap.size ≤ q) := fun q hq => by
            rcases hob with h | h
            · exact HB.out q (h.symm.trans hq)
            · have h2 := h.symm.trans hq
              injection h2 with h2
              have : (wo.alloc (.cells #[.int .i64 x] 3)).heap.size = wo.heap.size + 1 := by simp
              omega
          clear hP hW hB hown hown2 hgr hrow hsw hob
          go_wp2_with fail
          go_roundw
          case rel => exact ⟨j + 1, by omega, by go_num, HPU.out, HB7.out, HU7.out⟩
          case measure => simp [intOf]; omega
        · have hlt2 : xn < (kindsL m).length := by omega
          obtain ⟨ws, hw1, hw2⟩ := (HD3.out.upd HU.out).inn.sets.set i hi HSI.out
          have HHA := Lib.hid (has_in (bk i) (gk i) (kindsL m).length xn ws wo hw1 hlt2)
          have HWS : Hid (bhas ws xn = f (xn : Int)) := by
            show _ = _
            rw [HFF.out, decide_eq_false (by omega), Bool.false_or, HLG.out, hw2, HD3.out.is]
          rw [HWS.out] at HHA
          rw [← hx] at hcx HT HHA
          have hge2 : x < ((kindsL m).length : Int) := by omega
          have hx0 : 0 ≤ x := by omega
          clear hw1 hw2 hge hlt2 HWS hx
          cases hfx : f x with
          | true =>
            rw [hfx] at HHA
            have HF : Hid (f x = true) := hfx
            clear hfx
            go_wp2_with fail
            refine HHA.out.mono ?_
            rintro e w6 ⟨rfl, rfl⟩
            have HT3 : Hid ((R.take (j + 1)).filter f = (R.take j).filter f ++ [x]) := by
              have := HT.out
              rwa [if_pos HF.out] at this
            clear HT
            go_wp2_with (at_builtin; refine stop_here ?_)
            refine Hid.mk ?_
            have hrow : (wo.alloc (.cells #[.int .i64 x] 3)).ownsRow w.heap.size 3 1 (.slice vp M vc) M (((R.take j).filter f).map (Value.int .i64)) := by
              have h := row_upd HX.out ((Upd.refl [] wo).alloc (.cells #[.int .i64 x] 3)) (by simp)
              rwa [HL.out] at h
            have hsw := HU.out.size
            refine (wpList_append_src rfl _ _ 42 rfl w.heap.size 3 i0 _ 1 8 Tryz.underlying42 HII.out HZ0.out HY1.out HY2.out rfl (by decide) _ _ _ rfl hrow _ 1 ([x].map (Value.int .i64)) rfl (.inr ⟨_, _, rfl, fun y u hu => by
              rw [Addr.add_lit, Nat.zero_add, cell_of (heap_alloc_new wo _)]
              show (([x].map (Value.int .i64)).toArray)[y]? = some u
              rw [List.getElem?_toArray]
              exact hu⟩) rfl (oneI _) (by unfold maxLen; omega) (by omega) (by simp; omega) ?_)
            intro v' w7 hown hgr hob
            have hown2 : w7.ownsRow w.heap.size 3 1 v' (((R.take j).filter f).length + 1) (((R.take j).filter f).map (Value.int .i64) ++ [.int .i64 x]) := by rw [HL.out]; exact hown
            obtain ⟨hP, hW, hB⟩ := HX.out.push hown2 hgr
            rw [← HT3.out] at hP
            have HPU := Lib.hid hP
            have HU7 := Lib.hid (HU.out.trans' hW (fun q hq hl => by have := HB.out q (Option.mem_toList.1 hq); omega))
            have HB7 : Hid (∀ q, v'.ownBlock = some q → w3.heap.size ≤ q) := fun q hq => by
              rcases hob with h | h
              · exact HB.out q (h.symm.trans hq)
              · have h2 := h.symm.trans hq
                injection h2 with h2
                have : (wo.alloc (.cells #[.int .i64 x] 3)).heap.size = wo.heap.size + 1 := by simp
                omega
            clear hP hW hB hown hown2 hgr hrow hsw hob
            go_wp2_with fail
            go_roundw
            case rel => exact ⟨j + 1, by omega, by go_num, HPU.out, HB7.out, HU7.out⟩
            case measure => simp [intOf]; omega
          | false =>
            rw [hfx] at HHA
            have HT3 : Hid ((R.take (j + 1)).filter f = (R.take j).filter f) := by
              have := HT.out
              rwa [if_neg (by rw [hfx]; simp), List.append_nil] at this
            clear HT hfx
            go_wp2_with fail
            refine HHA.out.mono ?_
            rintro e w6 ⟨rfl, rfl⟩
            go_wp2_with fail
            go_roundw
            case rel => exact ⟨j + 1, by omega, by go_num, by rw [HT3.out]; exact HX.out, HB.out, HU.out⟩
            case measure => simp [intOf]; omega
      · obtain rfl : j = R.length := by omega
        have hx := HX.out
        rw [List.take_length] at hx
        have HXX := Lib.hid hx
        clear hx
        generalize hL : ((R.take R.length).filter f).length = M at hv
        subst hv
        clear hL
        go_wp2_with fail
        go_ret
        exact ⟨n1 + 1, _, by omega, by omega, ⟨B, lb, _, F, bk, gk, HD3.out.upd HU.out⟩, HU3.out.trans (HU.out.mono (T := [mb, ib]) (by simp)), rfl, by rw [HR.out]; exact HXX.out⟩
  · have hv : atP m.code.length (seenF s) bk (i : Int) = .pointer none := by
      unfold atP ptrV
      rw [if_pos ⟨by omega, by omega⟩, Int.toNat_natCast, if_neg hs]
    rw [hv]
    have HR : Hid (lrefL m s i = []) := by
      show _ = _
      unfold lrefL
      rw [if_neg hs]
    clear hv hs
    go_wp2_with fail
    go_ret
    exact ⟨n1, _, hn1, by omega, ⟨B, lb, kv, F, bk, gk, HD.out⟩, HU.out, rfl, by rw [HR.out]; exact OwnI.nil _ _ _⟩

/-- A map of no method. -/
def LvX (w : World) (mb ib k : Nat) (d : Int) : Prop := w.heap[mb]? = some (.cells (mapCells ib k d 0 nilM (.slice none 0 0) (.slice none 0 0)) 147)

set_option maxRecDepth 100000 in
set_option maxHeartbeats 2000000 in
theorem work_out (W0 : World) (mb ib : Nat) (p : Prg) (ss : List Lk) (n0 n : Int) (w : World) (hi : InfoK W0 w ib p ss n0 n) (hok : p.Ok) (hb : w.heap[mb]? = some (.cells (mapCells ib p.ms.length 0 1 nilM (.slice none 0 0) (.slice none 0 0)) 147)) :
    Calls Tryz.prog 88 #[.pointer (some ⟨mb, 0, none⟩)] w fun e w' => e = .returned (.tuple #[]) ∧ Upd [] w w' := by
  have hmany := hok.many
  have hfew := hok.few
  have HPR := Lib.hid (iprog_any ib p ss n w hi.now (by omega) (by omega) (fun j hj => by have := hok.code1 j hj; omega))
  have m0 : w.cell? ⟨mb, 0, none⟩ = some (.pointer (some ⟨ib, 0, none⟩)) := by rw [cell_of hb]; rfl
  have m1 : w.cell? ⟨mb, 1, none⟩ = some (.int .i64 p.ms.length) := by rw [cell_of hb]; rfl
  clear hi hok hb
  go_enter Tryz.func88, Tryz.ntmps88
  go_wp2_with fail
  refine HPR.out.mono ?_
  rintro e w1 ⟨cv, mv, rfl, hc1, hm1, hu1⟩
  obtain ⟨cp, cc, rfl, _⟩ := hc1
  obtain ⟨mp, mc, rfl, _⟩ := hm1
  have hu2 := (Upd.refl [] w1).alloc (.cells #[.slice cp p.cs.length cc, .slice mp p.ms.length mc] 36)
  have hp2 := heap_alloc_new w1 (.cells #[.slice cp p.cs.length cc, .slice mp p.ms.length mc] 36)
  have HU2 := Lib.hid (hu1.trans hu2)
  have m1 := (hu1.trans hu2).cell m1 (by simp)
  clear hu1 hu2 HPR m0
  go_upto_region 1 with fail
  generalize w1.alloc (.cells #[.slice cp p.cs.length cc, .slice mp p.ms.length mc] 36) = w2 at hp2 HU2 m1 ⊢
  generalize w1.heap.size = pb at hp2 ⊢
  have p1 : w2.cell? ⟨pb, 1, none⟩ = some (.slice mp p.ms.length mc) := by rw [cell_of hp2]; rfl
  have g1 : decide ((p.ms.length : Int) < 0) = false := decide_eq_false (by omega)
  clear hp2
  go_quiet (fail)
  go_wp2_with fail
  first
    | (refine bodyPost_ret (results_none rfl _ _ _) rfl ?_)
    | go_end0
  exact ⟨rfl, HU2.out.drewN _⟩

set_option maxRecDepth 100000 in
set_option maxHeartbeats 2000000 in
theorem once_out (W0 : World) (mb ib : Nat) (p : Prg) (ss : List Lk) (n0 n : Int) (d : Int) (w : World) (hi : InfoK W0 w ib p ss n0 n) (hok : p.Ok) (hw0 : W0.heap.size ≤ mb) (hd : d = 0 ∨ d = 1) (hb : LvX w mb ib p.ms.length d) :
    Calls Tryz.prog 87 #[.pointer (some ⟨mb, 2, none⟩), .func (.func 88) #[.pointer (some ⟨mb, 0, none⟩)] #[]] w fun e w' => e = .returned (.tuple #[]) ∧ LvX w' mb ib p.ms.length 1 ∧ Upd [mb] w w' := by
  unfold LvX at hb
  rcases hd with rfl | rfl
  · have c2 : w.cell? ⟨mb, 2, none⟩ = some (.int .u32 0) := by rw [cell_of hb]; rfl
    have c3 : w.cell? ⟨mb, 3, none⟩ = some (.int .i32 0) := by rw [cell_of hb]; rfl
    have hst := (Upd.refl [mb] w).setCell (p := ⟨mb, 3, none⟩) (.inl (by simp)) (.int .i32 1)
    have hlt := lt_of_heap hb
    have hb1 := heap_setCell hb 3 (.int .i32 1)
    have hwk := work_out W0 mb ib p ss n0 n (w.setCell ⟨mb, 3, none⟩ (.int .i32 1)) (hi.keep hst (by simp; omega)) hok hb1
    refine (do_first mb w c2 c3 (froz_of hb 3) (fun w1 => Upd [] (w.setCell ⟨mb, 3, none⟩ (.int .i32 1)) w1) hwk ?_).mono ?_
    · intro w1 hu
      have hb2 := hu.heap hb1 (by simp)
      exact ⟨by rw [cell_of hb2]; rfl, by rw [cell_of hb2]; rfl, froz_of hb2 2, froz_of hb2 3⟩
    · rintro e w' ⟨h1, w1, hu, rfl⟩
      have hb2 := hu.heap hb1 (by simp)
      have hs2 := ((Upd.refl [mb] w1).drew.setCell (p := ⟨mb, 2, none⟩) (.inl (by simp)) (.int .u32 1)).setCell (p := ⟨mb, 3, none⟩) (.inl (by simp)) (.int .i32 0)
      have hbn := heap_setCell (heap_setCell (w := w1.drew) hb2 2 (.int .u32 1)) 3 (.int .i32 0)
      exact ⟨h1, hbn, (hst.trans (hu.mono (T := [mb]) (by simp))).trans hs2⟩
  · have c2 : w.cell? ⟨mb, 2, none⟩ = some (.int .u32 1) := by rw [cell_of hb]; rfl
    refine (do_done ⟨mb, 2, none⟩ 1 (by decide) _ w c2).mono ?_
    rintro e w' ⟨h1, rfl⟩
    exact ⟨h1, hb, Upd.refl _ _⟩

set_option maxRecDepth 100000 in
set_option maxHeartbeats 2000000 in
theorem at_out (W0 : World) (mb ib : Nat) (p : Prg) (ss : List Lk) (n0 n : Int) (d : Int) (w : World) (hi : InfoK W0 w ib p ss n0 n) (hok : p.Ok) (hw0 : W0.heap.size ≤ mb) (hd : d = 0 ∨ d = 1) (hb : LvX w mb ib p.ms.length d) :
    Calls Tryz.prog 68 #[.pointer (some ⟨mb, 0, none⟩), .int .i64 0] w fun e w' => e = .returned (.pointer none) ∧ LvX w' mb ib p.ms.length 1 ∧ Upd [mb] w w' := by
  have HON := Lib.hid (once_out W0 mb ib p ss n0 n d w hi hok hw0 hd hb)
  clear hi hb
  go_enter Tryz.func68, Tryz.ntmps68
  go_wp2_with fail
  refine HON.out.mono ?_
  rintro e w1 ⟨rfl, hb, hu⟩
  have HB := Lib.hid hb
  have HU := Lib.hid hu
  unfold LvX at hb
  have m9 : w1.cell? ⟨mb, 9, none⟩ = some (.slice none 0 0) := by rw [cell_of hb]; rfl
  clear hb hu HON
  go_wp2_with fail
  go_ret
  exact ⟨rfl, HB.out, HU.out⟩

set_option maxRecDepth 100000 in
set_option maxHeartbeats 2000000 in
theorem locals_out (W0 : World) (mb ib : Nat) (p : Prg) (ss : List Lk) (n0 n : Int) (d : Int) (w : World) (hi : InfoK W0 w ib p ss n0 n) (hok : p.Ok) (hw0 : W0.heap.size ≤ mb) (hd : d = 0 ∨ d = 1) (hb : LvX w mb ib p.ms.length d) :
    Calls Tryz.prog 36 #[.pointer (some ⟨mb, 0, none⟩), .int .i64 0] w fun e w' => e = .returned (.slice none 0 0) ∧ LvX w' mb ib p.ms.length 1 ∧ Upd [mb] w w' := by
  have HAT := Lib.hid (at_out W0 mb ib p ss n0 n d w hi hok hw0 hd hb)
  clear hi hb
  go_enter Tryz.func36, Tryz.ntmps36
  go_wp2_with fail
  refine HAT.out.mono ?_
  rintro e w1 ⟨rfl, hb, hu⟩
  have HB := Lib.hid hb
  have HU := Lib.hid hu
  clear hb hu HAT
  go_wp2_with fail
  go_ret
  exact ⟨rfl, HB.out, HU.out⟩
set_option maxRecDepth 100000 in
set_option maxHeartbeats 2000000 in
theorem lrefs_out (W0 : World) (mb ib : Nat) (p : Prg) (ss : List Lk) (n0 n : Int) (d : Int) (w : World) (hi : InfoK W0 w ib p ss n0 n) (hok : p.Ok) (hw0 : W0.heap.size ≤ mb) (hd : d = 0 ∨ d = 1) (hb : LvX w mb ib p.ms.length d) :
    Calls Tryz.prog 46 #[.pointer (some ⟨mb, 0, none⟩), .int .i64 0] w fun e w' => e = .returned (.slice none 0 0) ∧ LvX w' mb ib p.ms.length 1 ∧ Upd [mb] w w' := by
  have HAT := Lib.hid (at_out W0 mb ib p ss n0 n d w hi hok hw0 hd hb)
  clear hi hb
  go_enter Tryz.func46, Tryz.ntmps46
  go_wp2_with fail
  refine HAT.out.mono ?_
  rintro e w1 ⟨rfl, hb, hu⟩
  have HB := Lib.hid hb
  have HU := Lib.hid hu
  clear hb hu HAT
  go_wp2_with fail
  go_ret
  exact ⟨rfl, HB.out, HU.out⟩
end Go.Proofs.YtpmfbhoochogoaaGreatDoor

/-! overdriveref7.Info.Stack, Refs, Behind. -/
/-! overdriveref7.Info.Stack, Refs, Behind. -/
namespace Go.Proofs.YtpmfbhoochogoaaGreatDoor
open Go.RowKit

set_option maxRecDepth 100000 in
set_option maxHeartbeats 4000000 in
theorem rstack_any (p : Prg) (ss : List Lk) (a0 a1 : Option Addr) (n0 c0 n1 c1 : Nat) (v2 : Value) (k q : Nat) (w : World) (h : LksT w v2 p.ms ss) (hl : ss.length = p.ms.length) (hk : k < p.ms.length) (hq : q < (p.ms.getD k default).code.length) :
    Calls Tryz.prog 71 #[.agg #[.slice a0 n0 c0, .slice a1 n1 c1, v2], .int .i64 k, .int .i64 q] w fun e w' => e = .returned (.string (bs ((ss.getD k default).stk.getD q []))) ∧ Upd [] w w' := by
  obtain ⟨a, cap, rfl, _, hx⟩ := h
  obtain ⟨b, o, gs, gb, rfl, x0, x1, x2, hlk⟩ := hx k (by omega)
  clear hx
  generalize p.ms.getD k default = m at x0 x1 hlk hq ⊢
  generalize ss.getD k default = s at x2 hlk ⊢
  rw [hl]
  have hu := (Upd.refl [] w).alloc (.cells #[.slice a0 n0 c0, .slice a1 n1 c1, .slice (some ⟨b, o, none⟩) p.ms.length cap] 49)
  have hb := heap_alloc_new w (.cells #[.slice a0 n0 c0, .slice a1 n1 c1, .slice (some ⟨b, o, none⟩) p.ms.length cap] 49)
  have y2 : (w.alloc (.cells #[.slice a0 n0 c0, .slice a1 n1 c1, .slice (some ⟨b, o, none⟩) p.ms.length cap] 49)).cell? ⟨w.heap.size, 2, none⟩ = some (.slice (some ⟨b, o, none⟩) p.ms.length cap) := by rw [cell_of hb]; rfl
  have x1 := hu.cell x1 (by simp)
  have z := hu.cell (hlk q hq).1 (by simp)
  have HU := Lib.hid hu
  clear hb hlk hu
  generalize bs (s.stk.getD q []) = S at z ⊢
  go_enter Tryz.func71, Tryz.ntmps71
  go_wp2_with fail
  go_ret
  exact ⟨rfl, HU.out⟩

/-- The references of a place, as the document says. -/
def rrefL (m : Meth) (s : Lk) (pc : Int) : List Int := if rseen s m.code.length pc = true then refsL (kindsL m ++ s.stk.getD pc.toNat []) 0 else []

set_option maxRecDepth 100000 in
set_option maxHeartbeats 4000000 in
theorem rrefs_any (p : Prg) (ss : List Lk) (a0 ma : Option Addr) (n0 c0 mc : Nat) (v2 : Value) (k : Nat) (pc : Int) (w : World) (h : LksT w v2 p.ms ss) (hm : MethsAt w (.slice ma p.ms.length mc) p.ms) (hl : ss.length = p.ms.length) (hk : k < p.ms.length) (hkm : p.ms.length ≤ 1000) (hc : (p.ms.getD k default).code.length ≤ 1000)
    (hz1 : (p.ms.getD k default).params.size ≤ 1000) (hz2 : (p.ms.getD k default).locals.size ≤ 1000) (hz3 : ∀ q, ((ss.getD k default).stk.getD q []).length ≤ 12) :
    Calls Tryz.prog 43 #[.agg #[.slice a0 n0 c0, .slice ma p.ms.length mc, v2], .int .i64 k, .int .i64 pc] w fun e w' => ∃ u, e = .returned u ∧ OwnI w' w.heap.size 3 u (rrefL (p.ms.getD k default) (ss.getD k default) pc) ∧ Upd [] w w' := by
  obtain ⟨i0, hi0, hz0, hy1, hy2⟩ := info_parts Tryz.infoInt
  have HII := Lib.hid hi0
  have HZ0 := Lib.hid hz0
  have HY1 := Lib.hid hy1
  have HY2 := Lib.hid hy2
  clear hi0 hz0 hy1 hy2
  have H := Lib.hid h
  have HM := Lib.hid hm
  obtain ⟨a, cap, rfl, _⟩ := h
  rw [hl] at H
  have HRC := Lib.hid (fun W (hu : Upd [] w W) => rreached_any p ss a0 ma n0 c0 p.ms.length mc _ k pc W (H.out.upd hu) hl hk hkm hc)
  have HST := Lib.hid (fun W (hu : Upd [] w W) q hq => rstack_any p ss a0 ma n0 c0 p.ms.length mc _ k q W (H.out.upd hu) hl hk hq)
  obtain ⟨_, _, hme, _, hmm, hmx⟩ := hm
  injection hme with hme1 _ hme2
  subst hme1 hme2
  obtain ⟨bm, mo, rfl, _, q0, q1, q2, kv, q3, hcode⟩ := hmx k hk
  clear hmx
  unfold maxLen at hmm
  have HCODE := Lib.hid hcode
  obtain ⟨ka, kc, rfl, _⟩ := hcode
  have hu := (Upd.refl [] w).alloc (.cells #[.slice a0 n0 c0, .slice (some ⟨bm, mo, none⟩) p.ms.length mc, .slice a p.ms.length cap] 49)
  have hb := heap_alloc_new w (.cells #[.slice a0 n0 c0, .slice (some ⟨bm, mo, none⟩) p.ms.length mc, .slice a p.ms.length cap] 49)
  have HU0 := Lib.hid hu
  have y0 : (w.alloc (.cells #[.slice a0 n0 c0, .slice (some ⟨bm, mo, none⟩) p.ms.length mc, .slice a p.ms.length cap] 49)).cell? ⟨w.heap.size, 0, none⟩ = some (.slice a0 n0 c0) := by rw [cell_of hb]; rfl
  have y1 : (w.alloc (.cells #[.slice a0 n0 c0, .slice (some ⟨bm, mo, none⟩) p.ms.length mc, .slice a p.ms.length cap] 49)).cell? ⟨w.heap.size, 1, none⟩ = some (.slice (some ⟨bm, mo, none⟩) p.ms.length mc) := by rw [cell_of hb]; rfl
  have y2 : (w.alloc (.cells #[.slice a0 n0 c0, .slice (some ⟨bm, mo, none⟩) p.ms.length mc, .slice a p.ms.length cap] 49)).cell? ⟨w.heap.size, 2, none⟩ = some (.slice a p.ms.length cap) := by rw [cell_of hb]; rfl
  have q0 := hu.cell q0 (by simp)
  have q1 := hu.cell q1 (by simp)
  have q2 := hu.cell q2 (by simp)
  have q3 := hu.cell q3 (by simp)
  clear hb hu
  generalize hmk : p.ms.getD k default = m at q0 q1 q2 q3 HRC HST hc hz1 hz2 ⊢
  generalize hsk : ss.getD k default = s at HRC HST hz3 ⊢
  clear hmk hsk
  go_enter Tryz.func43, Tryz.ntmps43
  go_upto_region 2 with fail
  generalize w.alloc (.cells #[.slice a0 n0 c0, .slice (some ⟨bm, mo, none⟩) p.ms.length mc, .slice a p.ms.length cap] 49) = w0 at HU0 y0 y1 y2 q0 q1 q2 q3 ⊢
  go_wp2_with fail
  refine (HRC.out w0 HU0.out).mono ?_
  rintro e w1 ⟨rfl, hu1⟩
  have HU1 := Lib.hid (HU0.out.trans hu1)
  have y0 := hu1.cell y0 (by simp)
  have y1 := hu1.cell y1 (by simp)
  have y2 := hu1.cell y2 (by simp)
  have q0 := hu1.cell q0 (by simp)
  have q1 := hu1.cell q1 (by simp)
  have q2 := hu1.cell q2 (by simp)
  have q3 := hu1.cell q3 (by simp)
  clear hu1 HU0
  cases hr : rseen s m.code.length pc with
  | false =>
    have HR : Hid (rrefL m s pc = []) := by
      show _ = _
      unfold rrefL
      rw [hr]; rfl
    clear hr
    go_wp2_with fail
    go_ret
    exact ⟨_, rfl, by rw [HR.out]; exact OwnI.nil _ _ _, HU1.out⟩
  | true =>
    have hin : 0 ≤ pc ∧ pc < (m.code.length : Int) := by
      unfold rseen at hr
      rw [Bool.and_eq_true, decide_eq_true_eq] at hr
      exact hr.1
    obtain ⟨q, rfl⟩ := Int.eq_ofNat_of_zero_le hin.1
    have HR : Hid (rrefL m s (q : Int) = refsL (kindsL m ++ s.stk.getD q []) 0) := by
      show _ = _
      unfold rrefL
      rw [if_pos hr, Int.toNat_natCast]
    have hz3 := hz3 q
    have HKI := Lib.hid (fun W => rkinds_any m (.slice ka m.code.length kc) W (by omega) (by omega))
    have hql : q < m.code.length := by omega
    have HSQ := Lib.hid (fun W (hu : Upd [] w W) => HST.out W hu q hql)
    have hadd : bs (kindsL m) ++ bs (s.stk.getD q []) = bs (kindsL m ++ s.stk.getD q []) := by rw [bs_append]
    have hkl : (kindsL m).length ≤ 2000 := by
      unfold kindsL
      rw [List.length_append, ← size_list, ← size_list]
      omega
    have htv : (bs (s.stk.getD q [])).size ≤ 1000 := by rw [bs_size]; omega
    have hkv : (bs (kindsL m)).size ≤ 2000 := by rw [bs_size]; exact hkl
    have hll : (kindsL m ++ s.stk.getD q []).length ≤ 2012 := by rw [List.length_append]; omega
    generalize bs (s.stk.getD q []) = tv at hadd htv HSQ
    generalize bs (kindsL m) = kv at hadd hkv HKI
    generalize kindsL m ++ s.stk.getD q [] = l at hadd hll HR
    clear hr hin HRC HST hkl hz3
    have hov : ¬ (9223372036854775807 < kv.size + tv.size) := by omega
    have HU1d : Hid (Upd [] w w1.drew) := HU1.out.drew
    go_upto_region 4 with fail
    have hdr := (Upd.refl [] w1).drew
    have dy0 := hdr.cell y0 (by simp)
    have dy1 := hdr.cell y1 (by simp)
    have dy2 := hdr.cell y2 (by simp)
    have dq0 := hdr.cell q0 (by simp)
    have dq1 := hdr.cell q1 (by simp)
    have dq2 := hdr.cell q2 (by simp)
    have dq3 := hdr.cell q3 (by simp)
    clear hdr
    go_region_held3 (fun wX => wX.cell? ⟨w.heap.size, 0, none⟩ = some (.slice a0 n0 c0) ∧ wX.cell? ⟨w.heap.size, 1, none⟩ = some (.slice (some ⟨bm, mo, none⟩) p.ms.length mc) ∧ wX.cell? ⟨w.heap.size, 2, none⟩ = some (.slice a p.ms.length cap) ∧ wX.cell? ⟨bm, mo + k * 4, none⟩ = some (.string m.params) ∧ wX.cell? ⟨bm, mo + k * 4 + 1, none⟩ = some (.string m.locals) ∧ wX.cell? ⟨bm, mo + k * 4 + 2, none⟩ = some (.string m.ret) ∧ wX.cell? ⟨bm, mo + k * 4 + 3, none⟩ = some (.slice ka m.code.length kc))
      (first | exact ⟨dy0, dy1, dy2, dq0, dq1, dq2, dq3⟩ | exact ⟨ay0, ay1, ay2, aq0, aq1, aq2, aq3⟩ | exact ⟨by0, by1, by2, bq0, bq1, bq2, bq3⟩ | exact ⟨y0, y1, y2, q0, q1, q2, q3⟩)
      (first
        | (go_at_call 21; refine (HKI.out _).mono ?_; rintro e wa ⟨rfl, hua⟩; have HUa := Lib.hid (HU1d.out.trans hua); have ay0 := hua.cell dy0 (by simp); have ay1 := hua.cell dy1 (by simp); have ay2 := hua.cell dy2 (by simp); have aq0 := hua.cell dq0 (by simp); have aq1 := hua.cell dq1 (by simp); have aq2 := hua.cell dq2 (by simp); have aq3 := hua.cell dq3 (by simp); clear hua)
        | (go_at_call 71; refine (HSQ.out _ HUa.out).mono ?_; rintro e wb ⟨rfl, hub⟩; have HUb := Lib.hid (HUa.out.trans hub); have by0 := hub.cell ay0 (by simp); have by1 := hub.cell ay1 (by simp); have by2 := hub.cell ay2 (by simp); have bq0 := hub.cell aq0 (by simp); have bq1 := hub.cell aq1 (by simp); have bq2 := hub.cell aq2 (by simp); have bq3 := hub.cell aq3 (by simp); clear hub))
    rename_i hheld
    clear hheld
    clear dy0 dy1 dy2 dq0 dq1 dq2 dq3 ay0 ay1 ay2 aq0 aq1 aq2 aq3 by0 by1 by2 bq0 bq1 bq2 bq3 y0 y1 y2 q0 q1 q2 q3 hadd hov htv hkv HKI HSQ HUa HU1d
    have hsz := bs_size l
    go_wp2_with fail
    go_loopw [7, 9] (fun v iv wr => ∃ i : Nat, i ≤ l.length ∧ iv = .int .i64 i ∧ Hid (OwnI wr w.heap.size 3 v (refsL (l.take i) 0)) ∧ Hid (Upd [] w wr)) (fun _ iv _ => l.length - (intOf iv).toNat)
    case atStart => exact ⟨0, by omega, rfl, OwnI.nil _ _ _, HUb.out⟩
    case round =>
      obtain ⟨i, hi, rfl, HX, HU⟩ := hrel
      obtain ⟨wo, rfl⟩ : ∃ wo : World, wo = wr := ⟨_, rfl⟩
      obtain ⟨vp, vc, hv⟩ := HX.out.shape
      by_cases hlt : i < l.length
      · have hsi : i < (bs l).size := by rw [bs_size]; exact hlt
        have HT : Hid (refsL (l.take (i + 1)) 0 = refsL (l.take i) 0 ++ if (bs l)[i]'hsi = lR then [(i : Int)] else []) := by
          show _ = _
          rw [List.take_succ_eq_append_getElem hlt, refsL_snoc, bs_byte, List.getD_eq_getElem?_getD, List.getElem?_eq_getElem hlt, List.length_take, Nat.min_eq_left hi, Nat.zero_add]
          rfl
        have hLl : (refsL (l.take i) 0).length ≤ l.length := Nat.le_trans (refsL_le _ _) (by rw [List.length_take]; omega)
        generalize hL : (refsL (l.take i) 0).length = L at hv hLl
        subst hv
        have HL := Lib.hid hL
        clear hL
        by_cases hc82 : (bs l)[i]'hsi = lR
        · have HT3 : Hid (refsL (l.take (i + 1)) 0 = refsL (l.take i) 0 ++ [(i : Int)]) := by
            have := HT.out
            rwa [if_pos hc82] at this
          have hcn : ((((bs l)[i]'hsi).toNat : Int) == 82) = true := by rw [hc82]; rfl
          clear HT hc82
          go_wp2_with (at_builtin; refine stop_here ?_)
          refine Hid.mk ?_
          have hrow : (wo.alloc (.cells #[.int .i64 (i : Int)] 3)).ownsRow w.heap.size 3 1 (.slice vp L vc) L ((refsL (l.take i) 0).map (Value.int .i64)) := by
            have h := row_upd HX.out ((Upd.refl [] wo).alloc (.cells #[.int .i64 (i : Int)] 3)) (by simp)
            rwa [HL.out] at h
          have hsw := HU.out.size
          refine (wpList_append_src rfl _ _ 42 rfl w.heap.size 3 i0 _ 1 8 Tryz.underlying42 HII.out HZ0.out HY1.out HY2.out rfl (by decide) _ _ _ rfl hrow _ 1 ([(i : Int)].map (Value.int .i64)) rfl (.inr ⟨_, _, rfl, fun x u hu => by
            rw [Addr.add_lit, Nat.zero_add, cell_of (heap_alloc_new wo _)]
            show (([(i : Int)].map (Value.int .i64)).toArray)[x]? = some u
            rw [List.getElem?_toArray]
            exact hu⟩) rfl (oneI _) (by unfold maxLen; omega) (by omega) (by simp; omega) ?_)
          intro v' w7 hown hgr _
          have hown2 : w7.ownsRow w.heap.size 3 1 v' ((refsL (l.take i) 0).length + 1) ((refsL (l.take i) 0).map (Value.int .i64) ++ [.int .i64 (i : Int)]) := by rw [HL.out]; exact hown
          obtain ⟨hP, hW, hB⟩ := HX.out.push hown2 hgr
          rw [← HT3.out] at hP
          have HP := Lib.hid hP
          have HU7 := Lib.hid (HU.out.trans' hW (fun q hq hl => by have := (hB q hq).1; omega))
          clear hP hW hB hown hown2 hgr hrow hsw hcn
          go_wp2_with fail
          go_roundw
          case rel => exact ⟨i + 1, by omega, by go_num, HP.out, HU7.out⟩
          case measure => simp [intOf]; omega
        · have HT3 : Hid (refsL (l.take (i + 1)) 0 = refsL (l.take i) 0) := by
            have := HT.out
            rwa [if_neg hc82, List.append_nil] at this
          have hcn : ((((bs l)[i]'hsi).toNat : Int) == 82) = false := by
            rw [beq_eq_false_iff_ne]
            intro h
            apply hc82
            apply UInt8.toNat_inj.1
            show ((bs l)[i]'hsi).toNat = 82
            omega
          clear HT hc82
          go_wp2_with fail
          go_roundw
          case rel => exact ⟨i + 1, by omega, by go_num, by rw [HT3.out]; exact HX.out, HU.out⟩
          case measure => simp [intOf]; omega
      · obtain rfl : i = l.length := by omega
        have hx := HX.out
        rw [List.take_length] at hx
        have HXX := Lib.hid hx
        clear hx
        generalize hL : (refsL (l.take l.length) 0).length = L at hv
        subst hv
        clear hL
        go_wp2_with fail
        go_ret
        exact ⟨_, rfl, by rw [HR.out]; exact HXX.out, HU.out⟩

theorem locT_len (n c : Nat) (F : Nat → Nat → Bool) (x : Int) : (locT n c F x).length ≤ c := by
  unfold locT
  split
  · have := List.length_filter_le (F x.toNat) (List.range c)
    rw [List.length_range] at this
    unfold ints
    rw [List.length_map]
    exact this
  · exact Nat.zero_le _
theorem flat_len (f : Int → List Int) (c : Nat) (h : ∀ x, (f x).length ≤ c) : ∀ L : List Int, (L.flatMap f).length ≤ c * L.length
  | [] => by simp
  | x :: L => by
    have h1 := flat_len f c h L
    have h2 := h x
    rw [List.flatMap_cons, List.length_append, List.length_cons, Nat.mul_add]
    omega
theorem flat_take (f : Int → List Int) (L : List Int) (j : Nat) (h : j < L.length) : (L.take (j + 1)).flatMap f = (L.take j).flatMap f ++ f (L.getD j 0) := by
  rw [List.take_succ_eq_append_getElem h, List.flatMap_append, List.getD_eq_getElem?_getD, List.getElem?_eq_getElem h]
  simp
/-- What is live behind a place, as the document says. -/
def rbehL (m : Meth) (s : Lk) (c : Nat) (F : Nat → Nat → Bool) (i : Nat) : List Int := if rseen s m.code.length i = true then sortL ((nextL m.code i).flatMap (locT m.code.length c F)) else []

set_option maxRecDepth 100000 in
set_option maxHeartbeats 4000000 in
theorem rbehind_any (p : Prg) (ss : List Lk) (a0 ma : Option Addr) (n0 c0 mc : Nat) (v2 : Value) (k i B gb c : Nat) (F : Nat → Nat → Bool) (w : World) (h : LksT w v2 p.ms ss) (hm : MethsAt w (.slice ma p.ms.length mc) p.ms) (hl : ss.length = p.ms.length) (hk : k < p.ms.length) (hkm : p.ms.length ≤ 1000) (hc : (p.ms.getD k default).code.length ≤ 1000)
    (hc24 : c ≤ 24) (hM : MatL w B gb (p.ms.getD k default).code.length c F) :
    Calls Tryz.prog 48 #[.agg #[.slice a0 n0 c0, .slice ma p.ms.length mc, v2], .int .i64 k, .int .i64 i, .slice (some ⟨gb, 0, none⟩) (p.ms.getD k default).code.length (p.ms.getD k default).code.length] w fun e w' => ∃ u, e = .returned u ∧ OwnI w' w.heap.size 3 u (rbehL (p.ms.getD k default) (ss.getD k default) c F i) ∧ Upd [] w w' := by
  obtain ⟨i0, hi0, hz0, hy1, hy2⟩ := info_parts Tryz.infoInt
  have HII := Lib.hid hi0
  have HZ0 := Lib.hid hz0
  have HY1 := Lib.hid hy1
  have HY2 := Lib.hid hy2
  clear hi0 hz0 hy1 hy2
  have H := Lib.hid h
  have HM := Lib.hid hm
  have HMT := Lib.hid hM
  clear hM
  obtain ⟨a, cap, rfl, _⟩ := h
  rw [hl] at H
  have HRC := Lib.hid (fun W (hu : Upd [] w W) => rreached_any p ss a0 ma n0 c0 p.ms.length mc _ k i W (H.out.upd hu) hl hk hkm hc)
  obtain ⟨_, _, hme, _, hmm, hmx⟩ := hm
  injection hme with hme1 _ hme2
  subst hme1 hme2
  obtain ⟨bm, mo, rfl, _, q0, q1, q2, kv, q3, hcode⟩ := hmx k hk
  clear hmx
  unfold maxLen at hmm
  have HCODE := Lib.hid hcode
  obtain ⟨ka, kc, rfl, _⟩ := hcode
  have hu := (Upd.refl [] w).alloc (.cells #[.slice a0 n0 c0, .slice (some ⟨bm, mo, none⟩) p.ms.length mc, .slice a p.ms.length cap] 49)
  have hb := heap_alloc_new w (.cells #[.slice a0 n0 c0, .slice (some ⟨bm, mo, none⟩) p.ms.length mc, .slice a p.ms.length cap] 49)
  have HU0 := Lib.hid hu
  have y0 : (w.alloc (.cells #[.slice a0 n0 c0, .slice (some ⟨bm, mo, none⟩) p.ms.length mc, .slice a p.ms.length cap] 49)).cell? ⟨w.heap.size, 0, none⟩ = some (.slice a0 n0 c0) := by rw [cell_of hb]; rfl
  have y1 : (w.alloc (.cells #[.slice a0 n0 c0, .slice (some ⟨bm, mo, none⟩) p.ms.length mc, .slice a p.ms.length cap] 49)).cell? ⟨w.heap.size, 1, none⟩ = some (.slice (some ⟨bm, mo, none⟩) p.ms.length mc) := by rw [cell_of hb]; rfl
  have y2 : (w.alloc (.cells #[.slice a0 n0 c0, .slice (some ⟨bm, mo, none⟩) p.ms.length mc, .slice a p.ms.length cap] 49)).cell? ⟨w.heap.size, 2, none⟩ = some (.slice a p.ms.length cap) := by rw [cell_of hb]; rfl
  have q0 := hu.cell q0 (by simp)
  have q1 := hu.cell q1 (by simp)
  have q2 := hu.cell q2 (by simp)
  have q3 := hu.cell q3 (by simp)
  clear hb hu
  generalize hmk : p.ms.getD k default = m at q0 q1 q2 q3 HRC hc HMT HCODE ⊢
  generalize hsk : ss.getD k default = s at HRC ⊢
  clear hmk hsk
  go_enter Tryz.func48, Tryz.ntmps48
  go_upto_region 2 with fail
  generalize w.alloc (.cells #[.slice a0 n0 c0, .slice (some ⟨bm, mo, none⟩) p.ms.length mc, .slice a p.ms.length cap] 49) = w0 at HU0 y0 y1 y2 q0 q1 q2 q3 ⊢
  go_wp2_with fail
  refine (HRC.out w0 HU0.out).mono ?_
  rintro e w1 ⟨rfl, hu1⟩
  have HU1 := Lib.hid (HU0.out.trans hu1)
  have y1 := hu1.cell y1 (by simp)
  have q0 := hu1.cell q0 (by simp)
  have q1 := hu1.cell q1 (by simp)
  have q2 := hu1.cell q2 (by simp)
  have q3 := hu1.cell q3 (by simp)
  clear hu1 HU0 y0 y2
  cases hr : rseen s m.code.length i with
  | false =>
    have HR : Hid (rbehL m s c F i = []) := by
      show _ = _
      unfold rbehL
      rw [hr]; rfl
    clear hr
    go_wp2_with fail
    go_ret
    exact ⟨_, rfl, by rw [HR.out]; exact OwnI.nil _ _ _, HU1.out⟩
  | true =>
    have HR : Hid (rbehL m s c F i = sortL ((nextL m.code i).flatMap (locT m.code.length c F))) := by
      show _ = _
      unfold rbehL
      rw [if_pos hr]
    have HRN := Lib.hid (rnext_any m.params m.locals m.ret _ m.code i w1 (HCODE.out.upd HU1.out) (by omega))
    clear hr HRC
    go_wp2_with fail
    refine HRN.out.mono ?_
    rintro e w2 ⟨nv, rfl, hown, hu2⟩
    have HU2 := Lib.hid (HU1.out.trans hu2)
    have HNV := Lib.hid hown
    have hl2 := nextL_two m.code i
    clear hown hu2 HRN y1 q0 q1 q2 q3 HCODE
    generalize nextL m.code i = L at HNV hl2 HR
    obtain ⟨np, nc, rfl⟩ := HNV.out.shape
    go_wp2_with fail
    go_loopw [9, 11] (fun v iv wr => ∃ j : Nat, j ≤ L.length ∧ iv = .int .i64 j ∧ Hid (OwnI wr w.heap.size 3 v ((L.take j).flatMap (locT m.code.length c F))) ∧ Hid (∀ q, v.ownBlock = some q → w2.heap.size ≤ q) ∧ Hid (Upd [] w2 wr)) (fun _ iv _ => L.length - (intOf iv).toNat)
    case atStart => exact ⟨0, by omega, rfl, OwnI.nil _ _ _, (fun q h => by simp [Value.ownBlock] at h), Upd.refl _ _⟩
    case round =>
      obtain ⟨j, hj, rfl, HX, HB, HU⟩ := hrel
      obtain ⟨wo, rfl⟩ : ∃ wo : World, wo = wr := ⟨_, rfl⟩
      obtain ⟨vp, vc, hv⟩ := HX.out.shape
      have HUw := Lib.hid (HU2.out.trans HU.out)
      by_cases hlt : j < L.length
      · have HN := HNV.out.upd HU.out (by simp)
        have hcl : ∃ gn, np = some ⟨gn, 0, none⟩ ∧ wo.cell? ⟨gn, j, none⟩ = some (.int .i64 (L.getD j 0)) := by
          rcases HN.form with ⟨h1, h2⟩ | ⟨g, c, h1, _, _, _, h5⟩
          · rw [h2] at hlt; simp at hlt
          · injection h1 with h1
            exact ⟨g, h1, h5 j hlt⟩
        obtain ⟨gn, rfl, hcx⟩ := hcl
        have HT := Lib.hid (flat_take (locT m.code.length c F) L j hlt)
        have hLl : ((L.take j).flatMap (locT m.code.length c F)).length ≤ 48 := by
          have h1 := flat_len (locT m.code.length c F) c (locT_len _ _ _) (L.take j)
          have h2 : (L.take j).length ≤ 2 := by rw [List.length_take]; omega
          have h3 : c * (L.take j).length ≤ 24 * 2 := Nat.mul_le_mul hc24 h2
          omega
        have hxl := locT_len m.code.length c F (L.getD j 0)
        have HLC := Lib.hid (rlocals_any B gb m.code.length c F (L.getD j 0) wo (HMT.out.upd HUw.out (by simp)) (by omega))
        generalize hX : L.getD j 0 = x at hcx HT HLC hxl
        clear hX HN
        generalize hL : ((L.take j).flatMap (locT m.code.length c F)).length = M at hv hLl
        subst hv
        have HL := Lib.hid hL
        clear hL
        go_wp2_with fail
        refine HLC.out.mono ?_
        rintro e w6 ⟨u, rfl, hown6, hu6⟩
        have HU6 := Lib.hid (HU.out.trans hu6)
        have HX6 : Hid (OwnI w6 w.heap.size 3 (.slice vp M vc) ((L.take j).flatMap (locT m.code.length c F))) := HX.out.upd hu6 (by simp)
        obtain ⟨up, uc, rfl⟩ := hown6.shape
        have HSRC : Hid (SrcV w6 (.slice up (locT m.code.length c F x).length uc) (locT m.code.length c F x).length ((locT m.code.length c F x).map (Value.int .i64))) := by
          rcases hown6.form with ⟨h1, h2⟩ | ⟨g, c9, h1, _, _, _, h5⟩
          · injection h1 with h1 h1b h1c
            rw [h2, h1, h1c]
            exact .inl ⟨0, rfl, rfl, rfl⟩
          · injection h1 with h1 _ h1c
            rw [h1, h1c]
            have h9 := src_row (w := w6) (g := g) h5 0 (locT m.code.length c F x).length c9 (by omega) 0 (.inl rfl)
            rwa [List.drop_zero, List.take_length] at h9
        clear hown6 hu6 HLC hcx
        generalize locT m.code.length c F x = X at HSRC HT hxl
        go_wp2_with (at_builtin; refine stop_here ?_)
        refine Hid.mk ?_
        have hrow : w6.ownsRow w.heap.size 3 1 (.slice vp M vc) M (((L.take j).flatMap (locT m.code.length c F)).map (Value.int .i64)) := by
          have h : w6.ownsRow w.heap.size 3 1 (.slice vp M vc) ((L.take j).flatMap (locT m.code.length c F)).length (((L.take j).flatMap (locT m.code.length c F)).map (Value.int .i64)) := HX6.out
          rwa [HL.out] at h
        have hsw := HU6.out.size
        have hs2 := HU2.out.size
        refine (wpList_append_src rfl _ _ 42 rfl w.heap.size 3 i0 _ 1 8 Tryz.underlying42 HII.out HZ0.out HY1.out HY2.out rfl (by decide) _ _ _ rfl hrow _ _ (X.map (Value.int .i64)) rfl HSRC.out (by simp) (oneI _) (by unfold maxLen; omega) (by omega) (by omega) ?_)
        intro v' w7 hown hgr hob
        have HP : Hid (OwnI w7 w.heap.size 3 v' ((L.take (j + 1)).flatMap (locT m.code.length c F))) := by
          show World.ownsRow _ _ _ _ _ _ _
          rw [HT.out, List.length_append, List.map_append, HL.out]
          exact hown
        have hW := (Upd.refl (Value.slice vp M vc).ownBlock.toList w6).grown hgr (fun q hq => Or.inl (Option.mem_toList.2 hq))
        have HU7 := Lib.hid (HU6.out.trans' hW (fun q hq hl => by have := HB.out q (Option.mem_toList.1 hq); omega))
        have HB7 : Hid (∀ q, v'.ownBlock = some q → w2.heap.size ≤ q) := fun q hq => by
          rcases hob with h | h
          · exact HB.out q (h.symm.trans hq)
          · rw [h] at hq
            injection hq with hq
            omega
        clear hW hown hgr hob hrow hsw hs2
        go_wp2_with fail
        go_roundw
        case rel => exact ⟨j + 1, by omega, by go_num, HP.out, HB7.out, HU7.out⟩
        case measure => simp [intOf]; omega
      · obtain rfl : j = L.length := by omega
        have hx := HX.out
        rw [List.take_length] at hx
        have hll : (L.flatMap (locT m.code.length c F)).length ≤ 48 := by
          have h1 := flat_len (locT m.code.length c F) c (locT_len _ _ _) L
          have h3 : c * L.length ≤ 24 * 2 := Nat.mul_le_mul hc24 hl2
          omega
        obtain ⟨gs, hiv, _⟩ := hx.ints
        have HSO := Lib.hid (sorted_any _ gs _ wo hiv (by omega))
        clear hx hiv
        generalize hL : ((L.take L.length).flatMap (locT m.code.length c F)).length = M at hv
        subst hv
        clear hL
        go_wp2_with fail
        refine HSO.out.mono ?_
        rintro e w6 ⟨u, rfl, hown6, hu6⟩
        obtain ⟨up, uc, rfl⟩ := hown6.shape
        have HX6 := Lib.hid (hown6.base HUw.out.size)
        have HU6 := Lib.hid (HUw.out.trans hu6)
        clear hown6 hu6
        go_wp2_with fail
        go_ret
        exact ⟨_, rfl, by rw [HR.out]; exact HX6.out, HU6.out⟩
end Go.Proofs.YtpmfbhoochogoaaGreatDoor
