/- verify.Info.Program; overdriveref7.Info: Reached, Stack, Refs (parts of XLivC and XLsV for a seat without live). -/
import Derived.Test.YtpkdijbmomkdeaaGreatDoorSyO
import Derived.Test.YtpkdijbmomkdeaaGreatDoorCopyV
import Derived.Test.YtpkdijbmomkdeaaGreatDoorOwnNe
import Derived.Test.YtpkdijbmomkdeaaGreatDoorVerL5
import Derived.Test.YtpkdijbmomkdeaaGreatDoorMayL
import Derived.Test.YtpkdijbmomkdeaaGreatDoorLetL
import Derived.Test.YtpkdijbmomkdeaaGreatDoorREff
import Derived.Test.YtpkdijbmomkdeaaGreatDoorRNext
import Derived.Test.YtpkdijbmomkdeaaGreatDoorVerL11
import Derived.Test.YtpkdijbmomkdeaaGreatDoorLookA
import Derived.Test.YtpkdijbmomkdeaaGreatDoorRefsW
import Derived.Test.YtpkdijbmomkdeaaGreatDoorSorted2
import Derived.Deep.RegionHeld3
/-! verify.Info.Program; overdriveref7.Info: Reached, Stack, Refs. -/
namespace Go.Proofs.YtpkdijbmomkdeaaGreatDoor
open Go.RowKit

/-- A block without an instruction is none of a code's. -/
theorem CodeAt.off {w w' : World} {v : Value} {xs : List Ins} {B : Nat} (h : CodeAt w v xs) (hu : Upd [B] w w') (hB : ∀ o x, ¬ InsAt w B o x) : CodeAt w' v xs := by
  obtain ⟨a, cap, h1, h2, h3, h4⟩ := h
  refine ⟨a, cap, h1, h2, h3, fun i hi => ?_⟩
  obtain ⟨b, o, h5, h6, h7⟩ := h4 i hi
  have hb : b ∉ [B] := by
    intro hm
    simp at hm
    subst hm
    exact hB _ _ h7
  exact ⟨b, o, h5, h6, hu.cell h7.1 hb, hu.cell h7.2.1 hb, hu.cell h7.2.2.1 hb, hu.cell h7.2.2.2 hb⟩
theorem MethsAt.off {w w' : World} {v : Value} {ms : List Meth} {B : Nat} (h : MethsAt w v ms) (hu : Upd [B] w w') (hB : ∀ o x, ¬ InsAt w B o x) (hB2 : ∀ o s, w.cell? ⟨B, o, none⟩ ≠ some (.string s)) : MethsAt w' v ms := by
  obtain ⟨a, cap, h1, h2, h3, h4⟩ := h
  refine ⟨a, cap, h1, h2, h3, fun i hi => ?_⟩
  obtain ⟨b, o, h5, h6, h7, h8, h9, u, h10, h11⟩ := h4 i hi
  have hb : b ∉ [B] := by
    intro hm
    simp at hm
    subst hm
    exact hB2 _ _ h7
  exact ⟨b, o, h5, h6, hu.cell h7 hb, hu.cell h8 hb, hu.cell h9 hb, u, hu.cell h10 hb, h11.off hu hB⟩
theorem ClassAt.off {w w' : World} {v : Value} {cs : List ByteArray} {B : Nat} (h : ClassAt w v cs) (hu : Upd [B] w w') (hB2 : ∀ o s, w.cell? ⟨B, o, none⟩ ≠ some (.string s)) : ClassAt w' v cs := by
  obtain ⟨a, cap, h1, h0, h2, h3, h4⟩ := h
  refine ⟨a, cap, h1, h0, h2, h3, fun i hi => ?_⟩
  obtain ⟨b, o, h5, h6, h7⟩ := h4 i hi
  have hb : b ∉ [B] := by
    intro hm
    simp at hm
    subst hm
    exact hB2 _ _ h7
  exact ⟨b, o, h5, h6, hu.cell h7 hb⟩
theorem two_slices {w : World} {B n1 n2 c1 c2 : Nat} {p1 p2 : Option Addr} {t : TypeId} (h : w.heap[B]? = some (.cells #[.slice p1 n1 c1, .slice p2 n2 c2] t)) (o : Nat) : w.cell? ⟨B, o, none⟩ = none ∨ ∃ p n c, w.cell? ⟨B, o, none⟩ = some (.slice p n c) := by
  rw [cell_of h]
  match o with
  | 0 => exact .inr ⟨_, _, _, rfl⟩
  | 1 => exact .inr ⟨_, _, _, rfl⟩
  | o + 2 => left; simp

set_option maxRecDepth 100000 in
set_option maxHeartbeats 2000000 in
theorem iprog_any (ib : Nat) (p : Prg) (ss : List Lk) (n : Int) (w : World) (h : InfoAt w ib p ss n) (hn : p.ms.length ≤ 1000) (hn2 : p.cs.length ≤ 1000) (hk : ∀ j, j < p.ms.length → (p.ms.getD j default).code.length ≤ 1000) :
    Calls Tryz.prog 10 #[.pointer (some ⟨ib, 0, none⟩)] w fun e w' => ∃ cv mv, e = .returned (.agg #[cv, mv]) ∧ ClassAt w' cv p.cs ∧ MethsAt w' mv p.ms ∧ Upd [] w w' := by
  obtain ⟨cv, mv, lv, hb, hc, hm, _⟩ := h
  obtain ⟨cp, cc, rfl, hcx⟩ := id hc
  obtain ⟨mp, mc, rfl, hmx⟩ := id hm
  have hb0 := ((Upd.refl [] w).alloc (.cells #[.slice none 0 0, .slice none 0 0] 25)).heap hb (by simp)
  have hA := heap_alloc_new w (.cells #[.slice none 0 0, .slice none 0 0] 25)
  have hu0 := (Upd.refl [] w).alloc (.cells #[.slice none 0 0, .slice none 0 0] 25)
  have HC := Lib.hid ((hc.reads (offW_reads w ib)).upd hu0)
  have HM := Lib.hid ((hm.reads (offW_reads w ib)).upd hu0)
  clear hcx hmx hc hm
  go_enter Tryz.func10, Tryz.ntmps10
  go_upto_region 1 with fail
  generalize w.alloc (.cells #[.slice none 0 0, .slice none 0 0] 25) = w0 at hb0 hA hu0 HC HM ⊢
  have c0 : w0.cell? ⟨ib, 0, none⟩ = some (.slice cp p.cs.length cc) := by rw [cell_of hb0]; rfl
  have c1 : w0.cell? ⟨ib, 1, none⟩ = some (.slice mp p.ms.length mc) := by rw [cell_of hb0]; rfl
  have HCP := Lib.hid (copied_any p _ _ w0 HC.out HM.out hn hn2 hk)
  have HA := Lib.hid hA
  have HU0 := Lib.hid hu0
  clear hb0 hA hu0
  go_wp2_with fail
  refine HCP.out.mono ?_
  rintro e w1 ⟨cv', mv', rfl, hc1, hm1, hu1⟩
  obtain ⟨cp1, cc1, rfl, hcx⟩ := id hc1
  obtain ⟨mp1, mc1, rfl, hmx⟩ := id hm1
  have hA1 := hu1.heap HA.out (by simp)
  have f0 := froz_of hA1 0
  have f1 := froz_of hA1 1
  have a0 : w1.cell? ⟨w.heap.size, 0, none⟩ = some (.slice none 0 0) := by rw [cell_of hA1]; rfl
  have a1 : w1.cell? ⟨w.heap.size, 1, none⟩ = some (.slice none 0 0) := by rw [cell_of hA1]; rfl
  have HA1 := Lib.hid hA1
  have HC1 := Lib.hid hc1
  have HM1 := Lib.hid hm1
  have HU1 := Lib.hid (HU0.out.trans hu1)
  clear hcx hmx hc1 hm1 hu1 hA1
  go_wp2_with fail
  have k1 := heap_setCell HA1.out 0 (.slice cp1 p.cs.length cc1)
  have k2 := heap_setCell k1 1 (.slice mp1 p.ms.length mc1)
  have d0 := cell_of k2 0
  have d1 := cell_of k2 1
  simp at d0 d1
  have hst : Upd [w.heap.size] w1 ((w1.setCell ⟨w.heap.size, 0, none⟩ (.slice cp1 p.cs.length cc1)).setCell ⟨w.heap.size, 1, none⟩ (.slice mp1 p.ms.length mc1)) := ((Upd.refl _ _).setCell (.inl (by simp)) _).setCell (.inl (by simp)) _
  refine bodyPost_ret (v := .agg #[.slice cp1 p.cs.length cc1, .slice mp1 p.ms.length mc1]) (by simp [results, Tryz.results10, go_sem, d0, d1]) rfl ?_
  have hB2 : ∀ o s, w1.cell? ⟨w.heap.size, o, none⟩ ≠ some (.string s) := fun o s he => by
    rcases two_slices HA1.out o with h | ⟨_, _, _, h⟩
    · rw [h] at he; cases he
    · rw [h] at he; cases he
  have hB : ∀ o x, ¬ InsAt w1 w.heap.size o x := fun o x hx => by
    have he := hx.1
    rcases two_slices HA1.out o with h | ⟨_, _, _, h⟩
    · rw [h] at he; cases he
    · rw [h] at he; cases he
  exact ⟨_, _, rfl, HC1.out.off hst hB2, HM1.out.off hst hB hB2, HU1.out.trans' hst (fun q hq hl => by simp at hq; omega)⟩
end Go.Proofs.YtpkdijbmomkdeaaGreatDoor

namespace Go.Proofs.YtpkdijbmomkdeaaGreatDoor
open Go.RowKit
/-- Which places a look has reached. -/
def seenF (s : Lk) (i : Nat) : Bool := s.seen.getD i false
/-- Is a place reached? -/
def rseen (s : Lk) (n : Nat) (pc : Int) : Bool := decide (0 ≤ pc ∧ pc < (n : Int)) && seenF s pc.toNat

set_option maxRecDepth 100000 in
set_option maxHeartbeats 4000000 in
theorem rreached_any (p : Prg) (ss : List Lk) (a0 a1 : Option Addr) (n0 c0 n1 c1 : Nat) (v2 : Value) (k : Nat) (pc : Int) (w : World) (h : LksT w v2 p.ms ss) (hl : ss.length = p.ms.length) (hk : k < p.ms.length) (_hkm : p.ms.length ≤ 1000) (_hc : (p.ms.getD k default).code.length ≤ 1000) :
    Calls Tryz.prog 16 #[.agg #[.slice a0 n0 c0, .slice a1 n1 c1, v2], .int .i64 k, .int .i64 pc] w fun e w' => e = .returned (.bool (rseen (ss.getD k default) (p.ms.getD k default).code.length pc)) ∧ Upd [] w w' := by
  obtain ⟨a, cap, rfl, _, hx⟩ := h
  obtain ⟨b, o, gs, gb, rfl, x0, x1, x2, hlk⟩ := hx k (by omega)
  clear hx
  generalize p.ms.getD k default = m at x0 x1 hlk _hc ⊢
  generalize ss.getD k default = s at x2 hlk ⊢
  rw [hl]
  have hu := (Upd.refl [] w).alloc (.cells #[.slice a0 n0 c0, .slice a1 n1 c1, .slice (some ⟨b, o, none⟩) p.ms.length cap] 35)
  have hb := heap_alloc_new w (.cells #[.slice a0 n0 c0, .slice a1 n1 c1, .slice (some ⟨b, o, none⟩) p.ms.length cap] 35)
  have y2 : (w.alloc (.cells #[.slice a0 n0 c0, .slice a1 n1 c1, .slice (some ⟨b, o, none⟩) p.ms.length cap] 35)).cell? ⟨w.heap.size, 2, none⟩ = some (.slice (some ⟨b, o, none⟩) p.ms.length cap) := by rw [cell_of hb]; rfl
  have x0 := hu.cell x0 (by simp)
  have HU := Lib.hid hu
  have d0 : decide ((0 : Int) ≤ (k : Int)) = true := by simp
  have d1 : decide ((k : Int) < (p.ms.length : Int)) = true := by simp; omega
  clear hb
  go_enter Tryz.func16, Tryz.ntmps16
  by_cases hin : 0 ≤ pc ∧ pc < (m.code.length : Int)
  · obtain ⟨q, rfl⟩ := Int.eq_ofNat_of_zero_le hin.1
    have hq : q < m.code.length := by omega
    have z := hu.cell (hlk q hq).2 (by simp)
    have HE : Hid (rseen s m.code.length (q : Int) = s.seen.getD q false) := by
      show _ = _
      unfold rseen seenF
      rw [decide_eq_true hin, Bool.true_and, Int.toNat_natCast]
    rw [HE.out]
    clear hin HE hlk hu
    generalize s.seen.getD q false = bv at z ⊢
    go_wp2_with fail
    go_ret
    exact ⟨rfl, HU.out⟩
  · have HE : Hid (rseen s m.code.length pc = false) := by
      show _ = _
      unfold rseen
      rw [decide_eq_false hin, Bool.false_and]
    rw [HE.out]
    clear hlk hu
    by_cases h0 : pc < 0
    · clear hin HE
      go_wp2_with fail
      go_ret
      exact ⟨rfl, HU.out⟩
    · have h1 : (m.code.length : Int) ≤ pc := by omega
      clear hin HE
      go_wp2_with fail
      go_ret
      exact ⟨rfl, HU.out⟩
end Go.Proofs.YtpkdijbmomkdeaaGreatDoor

/-! The letters of stacks are plain ones. No program in sight. -/
/-! The letters of stacks are plain ones. -/
namespace Go.Proofs.YtpkdijbmomkdeaaGreatDoor
open Go.RowKit

def Asc (l : List UInt8) : Prop := ∀ c ∈ l, c.toNat < 128
theorem Asc.nil : Asc [] := fun _ h => by cases h
theorem Asc.app {a b : List UInt8} (h1 : Asc a) (h2 : Asc b) : Asc (a ++ b) := fun c h => by
  rcases List.mem_append.1 h with h | h
  · exact h1 c h
  · exact h2 c h
theorem Asc.take {a : List UInt8} (h : Asc a) (n : Nat) : Asc (a.take n) := fun c hc => h c (List.mem_of_mem_take hc)
theorem Asc.drop {a : List UInt8} (h : Asc a) (n : Nat) : Asc (a.drop n) := fun c hc => h c (List.mem_of_mem_drop hc)
theorem asc_I : Asc [lI] := fun c h => by rw [List.mem_singleton] at h; subst h; decide
theorem asc_R : Asc [lR] := fun c h => by rw [List.mem_singleton] at h; subst h; decide
theorem asc_letters {s : ByteArray} (h : lettersB s = true) : Asc s.toList := fun c hc => by
  obtain ⟨i, hi, rfl⟩ := List.mem_iff_getElem.1 hc
  rw [← size_list] at hi
  have h1 := get_list s i hi
  have h2 := lettersB_true.1 h i hi
  rw [List.getElem?_eq_getElem (by rw [← size_list]; exact hi)] at h1
  injection h1 with h1
  rw [h1]
  rcases h2 with h2 | h2
  · rw [h2]; decide
  · rw [h2]; decide
theorem asc_atB {l : List UInt8} (h : Asc l) (i : Int) : Asc (atB l i) := by
  unfold atB
  split
  · rename_i hp
    intro c hc
    rw [List.mem_singleton] at hc
    subst hc
    rw [List.getD_eq_getElem?_getD, List.getElem?_eq_getElem (by omega)]
    exact h _ (List.getElem_mem _)
  · exact Asc.nil
theorem asc_ret {s : ByteArray} (h : retOk s) : Asc s.toList := by
  rcases h with h | h | h
  · rw [h]; exact Asc.nil
  · rw [h]; exact fun c hc => by rw [List.mem_singleton] at hc; subst hc; decide
  · rw [h]; exact fun c hc => by rw [List.mem_singleton] at hc; subst hc; decide
theorem head_asc {k : Nat} {m : Meth} (h : headCode k m = 0) : Asc m.params.toList ∧ Asc m.locals.toList ∧ Asc m.ret.toList := by
  unfold headCode at h
  split at h
  · cases h
  · split at h
    · cases h
    · rename_i h2
      have h3 : lettersB m.params = true := Decidable.byContradiction fun c => h2 (.inl c)
      have h4 : lettersB m.locals = true := Decidable.byContradiction fun c => h2 (.inr (.inl c))
      have h5 : retOk m.ret := Decidable.byContradiction fun c => h2 (.inr (.inr (.inl c)))
      exact ⟨asc_letters h3, asc_letters h4, asc_ret h5⟩
theorem Prg.Ok.asc {p : Prg} (h : p.Ok) {k : Nat} (hk : k < p.ms.length) : Asc (kindsL (p.ms.getD k default)) := by
  obtain ⟨h1, h2, _⟩ := head_asc (h.meth k hk)
  exact h1.app h2
theorem Prg.Ok.cls_asc {p : Prg} (h : p.Ok) {j : Nat} (hj : j < p.cs.length) : Asc (p.cs.getD j ByteArray.empty).toList := by
  have h1 := h.cls j hj
  unfold clsCode at h1
  split at h1
  · cases h1
  · split at h1
    · rename_i h2; exact asc_letters h2
    · cases h1
theorem asc_field {p : Prg} (h : p.Ok) (a b : Int) : Asc (fieldL p.cs a b) := by
  unfold fieldL
  split
  · exact asc_atB (h.cls_asc (by omega)) _
  · exact Asc.nil
theorem asc_eff {p : Prg} (h : p.Ok) {k : Nat} (hk : k < p.ms.length) {x : Ins} {pop push : List UInt8} (he : effL p (p.ms.getD k default) x = some (pop, push)) : Asc push := by
  unfold effL at he
  by_cases c0 : 8 ≤ x.op ∧ x.op ≤ 20 ∧ x.op ≠ 18
  · rw [if_pos c0] at he; cases he; exact asc_I
  rw [if_neg c0] at he
  by_cases c1 : x.op = 1 ∨ x.op = 34
  · rw [if_pos c1] at he; cases he; exact asc_I
  rw [if_neg c1] at he
  by_cases c2 : x.op = 2 ∨ x.op = 24
  · rw [if_pos c2] at he; cases he; exact asc_R
  rw [if_neg c2] at he
  by_cases c3 : x.op = 3
  · rw [if_pos c3] at he; cases he; exact asc_atB (h.asc hk) _
  rw [if_neg c3] at he
  by_cases c4 : x.op = 4
  · rw [if_pos c4] at he; cases he; exact Asc.nil
  rw [if_neg c4] at he
  by_cases c5 : x.op = 18
  · rw [if_pos c5] at he; cases he; exact asc_I
  rw [if_neg c5] at he
  by_cases c6 : x.op = 21
  · rw [if_pos c6] at he; cases he; exact asc_I
  rw [if_neg c6] at he
  by_cases c7 : x.op = 22
  · rw [if_pos c7] at he; cases he; exact Asc.nil
  rw [if_neg c7] at he
  by_cases c8 : x.op = 23 ∨ x.op = 35
  · rw [if_pos c8] at he; cases he; exact Asc.nil
  rw [if_neg c8] at he
  by_cases c9 : x.op = 25
  · rw [if_pos c9] at he; cases he; exact asc_field h _ _
  rw [if_neg c9] at he
  by_cases c10 : x.op = 26
  · rw [if_pos c10] at he; cases he; exact Asc.nil
  rw [if_neg c10] at he
  by_cases c11 : x.op = 27 ∨ x.op = 31
  · rw [if_pos c11] at he; cases he; exact asc_I
  rw [if_neg c11] at he
  by_cases c12 : x.op = 28
  · rw [if_pos c12] at he; cases he; exact asc_R
  rw [if_neg c12] at he
  by_cases c13 : x.op = 29
  · rw [if_pos c13] at he; cases he; exact asc_atB (asc_I.app asc_R) _
  rw [if_neg c13] at he
  by_cases c14 : x.op = 30
  · rw [if_pos c14] at he; cases he; exact Asc.nil
  rw [if_neg c14] at he
  by_cases c15 : x.op = 32
  · rw [if_pos c15] at he
    by_cases cc : 0 ≤ x.a ∧ x.a < (p.ms.length : Int)
    · rw [if_pos cc] at he; cases he; exact (head_asc (h.meth _ (by omega))).2.2
    · rw [if_neg cc] at he; cases he; exact Asc.nil
  rw [if_neg c15] at he
  by_cases c16 : x.op = 33
  · rw [if_pos c16] at he; cases he; exact Asc.nil
  rw [if_neg c16] at he
  cases he
theorem asc_beh {p : Prg} (h : p.Ok) {k : Nat} (hk : k < p.ms.length) {x : Ins} {s t : List UInt8} (hs : Asc s) (e : behL p (p.ms.getD k default) x s = .ok t) : Asc t := by
  by_cases h5 : x.op = 5
  · rw [(behL_dup e h5).2]; exact hs.app (hs.drop _)
  by_cases h6 : x.op = 6
  · rw [(behL_pop e h6).2]; exact hs.take _
  by_cases h7 : x.op = 7
  · rw [(behL_swap e h7).2]; exact ((hs.take _).app (hs.drop _)).app ((hs.take _).drop _)
  cases he : effL p (p.ms.getD k default) x with
  | some r =>
    obtain ⟨pop, push⟩ := r
    rw [(behL_eff e h5 h6 h7 he).2.2]
    exact (hs.take _).app (asc_eff h hk he)
  | none =>
    unfold behL at e
    rw [if_neg h5, if_neg h6, if_neg h7, he] at e
    rw [(out_inv e).1]
    exact hs
theorem asc_to {n : Nat} {s s' : Lk} {k : Int} {t : List UInt8} (h : ∀ q, Asc (s.stk.getD q [])) (ht : Asc t) (e : Lk.to n s k t = .ok s') : ∀ q, Asc (s'.stk.getD q []) := by
  unfold Lk.to at e
  split at e
  · cases e
  · split at e
    · cases e
      intro q
      show Asc ((s.stk.set k.toNat t).getD q [])
      rw [getD_set_b]
      split
      · exact ht
      · exact h q
    · split at e
      · cases e
      · cases e
        exact h
theorem asc_tos {n : Nat} {t : List UInt8} (ht : Asc t) : ∀ {l : List Int} {s s' : Lk}, (∀ q, Asc (s.stk.getD q [])) → l.foldlM (fun s k => Lk.to n s k t) s = .ok s' → ∀ q, Asc (s'.stk.getD q [])
  | [], _, _, h, e => by cases e; exact h
  | k :: l, s, s', h, e => by
    rw [List.foldlM_cons] at e
    cases h1 : Lk.to n s k t with
    | error e' => rw [h1] at e; cases e
    | ok s1 =>
      rw [h1] at e
      exact asc_tos ht (asc_to h ht h1) (show l.foldlM (fun s k => Lk.to n s k t) s1 = .ok s' from e)
theorem asc_step {p : Prg} (hp : p.Ok) {k : Nat} (hk : k < p.ms.length) {s s' : Lk} (h : ∀ q, Asc (s.stk.getD q [])) (e : s.step p (p.ms.getD k default) = .ok s') : ∀ q, Asc (s'.stk.getD q []) := by
  unfold Lk.step at e
  simp only at e
  split at e
  · cases e
  · rename_i t ht
    split at e
    · cases e
    · rename_i s2 h2
      cases e
      exact asc_tos (asc_beh hp hk (h _) ht) (s := s.take (s.pick (p.ms.getD k default).code.length) t) h h2
theorem asc_run {p : Prg} (hp : p.Ok) {k : Nat} (hk : k < p.ms.length) : ∀ (i : Nat) {s : Lk}, Lk.run p (p.ms.getD k default) i = .ok s → ∀ q, Asc (s.stk.getD q [])
  | 0, s, e => by
    cases e
    intro q
    show Asc ((List.replicate _ []).getD q [])
    rw [List.getD_eq_getElem?_getD, List.getElem?_replicate]
    split <;> exact Asc.nil
  | i + 1, s, e => by
    have e2 : (match Lk.run p (p.ms.getD k default) i with | .error e => Except.error e | .ok s => if s.pick (p.ms.getD k default).code.length = (p.ms.getD k default).code.length then .ok s else s.step p (p.ms.getD k default)) = .ok s := e
    cases h1 : Lk.run p (p.ms.getD k default) i with
    | error e' => rw [h1] at e2; cases e2
    | ok s0 =>
      rw [h1] at e2
      simp only at e2
      have h2 := asc_run hp hk i h1
      split at e2
      · cases e2; exact h2
      · exact asc_step hp hk h2 e2
theorem look_asc {p : Prg} (hp : p.Ok) {k : Nat} (hk : k < p.ms.length) {s : Lk} (e : lookM p (p.ms.getD k default) = .ok s) (q : Nat) : Asc (s.stk.getD q []) := asc_run hp hk _ e q
end Go.Proofs.YtpkdijbmomkdeaaGreatDoor

namespace Go.Proofs.YtpkdijbmomkdeaaGreatDoor
open Go.RowKit

set_option maxRecDepth 100000 in
set_option maxHeartbeats 4000000 in
theorem rstack_any (p : Prg) (ss : List Lk) (a0 a1 : Option Addr) (n0 c0 n1 c1 : Nat) (v2 : Value) (k q : Nat) (w : World) (h : LksT w v2 p.ms ss) (hl : ss.length = p.ms.length) (hk : k < p.ms.length) (hq : q < (p.ms.getD k default).code.length) :
    Calls Tryz.prog 35 #[.agg #[.slice a0 n0 c0, .slice a1 n1 c1, v2], .int .i64 k, .int .i64 q] w fun e w' => e = .returned (.string (bs ((ss.getD k default).stk.getD q []))) ∧ Upd [] w w' := by
  obtain ⟨a, cap, rfl, _, hx⟩ := h
  obtain ⟨b, o, gs, gb, rfl, x0, x1, x2, hlk⟩ := hx k (by omega)
  clear hx
  generalize p.ms.getD k default = m at x0 x1 hlk hq ⊢
  generalize ss.getD k default = s at x2 hlk ⊢
  rw [hl]
  have hu := (Upd.refl [] w).alloc (.cells #[.slice a0 n0 c0, .slice a1 n1 c1, .slice (some ⟨b, o, none⟩) p.ms.length cap] 35)
  have hb := heap_alloc_new w (.cells #[.slice a0 n0 c0, .slice a1 n1 c1, .slice (some ⟨b, o, none⟩) p.ms.length cap] 35)
  have y2 : (w.alloc (.cells #[.slice a0 n0 c0, .slice a1 n1 c1, .slice (some ⟨b, o, none⟩) p.ms.length cap] 35)).cell? ⟨w.heap.size, 2, none⟩ = some (.slice (some ⟨b, o, none⟩) p.ms.length cap) := by rw [cell_of hb]; rfl
  have x1 := hu.cell x1 (by simp)
  have z := hu.cell (hlk q hq).1 (by simp)
  have HU := Lib.hid hu
  clear hb hlk hu
  generalize bs (s.stk.getD q []) = S at z ⊢
  go_enter Tryz.func35, Tryz.ntmps35
  go_wp2_with fail
  go_ret
  exact ⟨rfl, HU.out⟩

/-- The references of a place, as the document says. -/
def rrefL (m : Meth) (s : Lk) (pc : Int) : List Int := if rseen s m.code.length pc = true then refsL (kindsL m ++ s.stk.getD pc.toNat []) 0 else []

set_option maxRecDepth 100000 in
set_option maxHeartbeats 4000000 in
theorem rrefs_any (p : Prg) (ss : List Lk) (a0 ma : Option Addr) (n0 c0 mc : Nat) (v2 : Value) (k : Nat) (pc : Int) (w : World) (h : LksT w v2 p.ms ss) (hm : MethsAt w (.slice ma p.ms.length mc) p.ms) (hl : ss.length = p.ms.length) (hk : k < p.ms.length) (hkm : p.ms.length ≤ 1000) (hc : (p.ms.getD k default).code.length ≤ 1000)
    (hz1 : (p.ms.getD k default).params.size ≤ 1000) (hz2 : (p.ms.getD k default).locals.size ≤ 1000) (hz3 : ∀ q, ((ss.getD k default).stk.getD q []).length ≤ 12) :
    Calls Tryz.prog 19 #[.agg #[.slice a0 n0 c0, .slice ma p.ms.length mc, v2], .int .i64 k, .int .i64 pc] w fun e w' => ∃ u, e = .returned u ∧ OwnI w' w.heap.size 3 u (rrefL (p.ms.getD k default) (ss.getD k default) pc) ∧ Upd [] w w' := by
  obtain ⟨i0, hi0, hz0, hy1, hy2⟩ := info_parts Tryz.infoInt
  have HII := Lib.hid hi0
  have HZ0 := Lib.hid hz0
  have HY1 := Lib.hid hy1
  have HY2 := Lib.hid hy2
  clear hi0 hz0 hy1 hy2
  have H := Lib.hid h
  have HM := Lib.hid hm
  obtain ⟨a, cap, rfl, _⟩ := h
  rw [hl] at H
  have HRC := Lib.hid (fun W (hu : Upd [] w W) => rreached_any p ss a0 ma n0 c0 p.ms.length mc _ k pc W (H.out.upd hu) hl hk hkm hc)
  have HST := Lib.hid (fun W (hu : Upd [] w W) q hq => rstack_any p ss a0 ma n0 c0 p.ms.length mc _ k q W (H.out.upd hu) hl hk hq)
  obtain ⟨_, _, hme, _, hmm, hmx⟩ := hm
  injection hme with hme1 _ hme2
  subst hme1 hme2
  obtain ⟨bm, mo, rfl, _, q0, q1, q2, kv, q3, hcode⟩ := hmx k hk
  clear hmx
  unfold maxLen at hmm
  have HCODE := Lib.hid hcode
  obtain ⟨ka, kc, rfl, _⟩ := hcode
  have hu := (Upd.refl [] w).alloc (.cells #[.slice a0 n0 c0, .slice (some ⟨bm, mo, none⟩) p.ms.length mc, .slice a p.ms.length cap] 35)
  have hb := heap_alloc_new w (.cells #[.slice a0 n0 c0, .slice (some ⟨bm, mo, none⟩) p.ms.length mc, .slice a p.ms.length cap] 35)
  have HU0 := Lib.hid hu
  have y0 : (w.alloc (.cells #[.slice a0 n0 c0, .slice (some ⟨bm, mo, none⟩) p.ms.length mc, .slice a p.ms.length cap] 35)).cell? ⟨w.heap.size, 0, none⟩ = some (.slice a0 n0 c0) := by rw [cell_of hb]; rfl
  have y1 : (w.alloc (.cells #[.slice a0 n0 c0, .slice (some ⟨bm, mo, none⟩) p.ms.length mc, .slice a p.ms.length cap] 35)).cell? ⟨w.heap.size, 1, none⟩ = some (.slice (some ⟨bm, mo, none⟩) p.ms.length mc) := by rw [cell_of hb]; rfl
  have y2 : (w.alloc (.cells #[.slice a0 n0 c0, .slice (some ⟨bm, mo, none⟩) p.ms.length mc, .slice a p.ms.length cap] 35)).cell? ⟨w.heap.size, 2, none⟩ = some (.slice a p.ms.length cap) := by rw [cell_of hb]; rfl
  have q0 := hu.cell q0 (by simp)
  have q1 := hu.cell q1 (by simp)
  have q2 := hu.cell q2 (by simp)
  have q3 := hu.cell q3 (by simp)
  clear hb hu
  generalize hmk : p.ms.getD k default = m at q0 q1 q2 q3 HRC HST hc hz1 hz2 ⊢
  generalize hsk : ss.getD k default = s at HRC HST hz3 ⊢
  clear hmk hsk
  go_enter Tryz.func19, Tryz.ntmps19
  go_upto_region 2 with fail
  generalize w.alloc (.cells #[.slice a0 n0 c0, .slice (some ⟨bm, mo, none⟩) p.ms.length mc, .slice a p.ms.length cap] 35) = w0 at HU0 y0 y1 y2 q0 q1 q2 q3 ⊢
  go_wp2_with fail
  refine (HRC.out w0 HU0.out).mono ?_
  rintro e w1 ⟨rfl, hu1⟩
  have HU1 := Lib.hid (HU0.out.trans hu1)
  have y0 := hu1.cell y0 (by simp)
  have y1 := hu1.cell y1 (by simp)
  have y2 := hu1.cell y2 (by simp)
  have q0 := hu1.cell q0 (by simp)
  have q1 := hu1.cell q1 (by simp)
  have q2 := hu1.cell q2 (by simp)
  have q3 := hu1.cell q3 (by simp)
  clear hu1 HU0
  cases hr : rseen s m.code.length pc with
  | false =>
    have HR : Hid (rrefL m s pc = []) := by
      show _ = _
      unfold rrefL
      rw [hr]; rfl
    clear hr
    go_wp2_with fail
    go_ret
    exact ⟨_, rfl, by rw [HR.out]; exact OwnI.nil _ _ _, HU1.out⟩
  | true =>
    have hin : 0 ≤ pc ∧ pc < (m.code.length : Int) := by
      unfold rseen at hr
      rw [Bool.and_eq_true, decide_eq_true_eq] at hr
      exact hr.1
    obtain ⟨q, rfl⟩ := Int.eq_ofNat_of_zero_le hin.1
    have HR : Hid (rrefL m s (q : Int) = refsL (kindsL m ++ s.stk.getD q []) 0) := by
      show _ = _
      unfold rrefL
      rw [if_pos hr, Int.toNat_natCast]
    have hz3 := hz3 q
    have HKI := Lib.hid (fun W => rkinds_any m (.slice ka m.code.length kc) W (by omega) (by omega))
    have hql : q < m.code.length := by omega
    have HSQ := Lib.hid (fun W (hu : Upd [] w W) => HST.out W hu q hql)
    have hadd : bs (kindsL m) ++ bs (s.stk.getD q []) = bs (kindsL m ++ s.stk.getD q []) := by rw [bs_append]
    have hkl : (kindsL m).length ≤ 2000 := by
      unfold kindsL
      rw [List.length_append, ← size_list, ← size_list]
      omega
    have htv : (bs (s.stk.getD q [])).size ≤ 1000 := by rw [bs_size]; omega
    have hkv : (bs (kindsL m)).size ≤ 2000 := by rw [bs_size]; exact hkl
    have hll : (kindsL m ++ s.stk.getD q []).length ≤ 2012 := by rw [List.length_append]; omega
    generalize bs (s.stk.getD q []) = tv at hadd htv HSQ
    generalize bs (kindsL m) = kv at hadd hkv HKI
    generalize kindsL m ++ s.stk.getD q [] = l at hadd hll HR
    clear hr hin HRC HST hkl hz3
    have hov : ¬ (9223372036854775807 < kv.size + tv.size) := by omega
    have HU1d : Hid (Upd [] w w1.drew) := HU1.out.drew
    go_upto_region 4 with fail
    have hdr := (Upd.refl [] w1).drew
    have dy0 := hdr.cell y0 (by simp)
    have dy1 := hdr.cell y1 (by simp)
    have dy2 := hdr.cell y2 (by simp)
    have dq0 := hdr.cell q0 (by simp)
    have dq1 := hdr.cell q1 (by simp)
    have dq2 := hdr.cell q2 (by simp)
    have dq3 := hdr.cell q3 (by simp)
    clear hdr
    go_region_held3 (fun wX => wX.cell? ⟨w.heap.size, 0, none⟩ = some (.slice a0 n0 c0) ∧ wX.cell? ⟨w.heap.size, 1, none⟩ = some (.slice (some ⟨bm, mo, none⟩) p.ms.length mc) ∧ wX.cell? ⟨w.heap.size, 2, none⟩ = some (.slice a p.ms.length cap) ∧ wX.cell? ⟨bm, mo + k * 4, none⟩ = some (.string m.params) ∧ wX.cell? ⟨bm, mo + k * 4 + 1, none⟩ = some (.string m.locals) ∧ wX.cell? ⟨bm, mo + k * 4 + 2, none⟩ = some (.string m.ret) ∧ wX.cell? ⟨bm, mo + k * 4 + 3, none⟩ = some (.slice ka m.code.length kc))
      (first | exact ⟨dy0, dy1, dy2, dq0, dq1, dq2, dq3⟩ | exact ⟨ay0, ay1, ay2, aq0, aq1, aq2, aq3⟩ | exact ⟨by0, by1, by2, bq0, bq1, bq2, bq3⟩ | exact ⟨y0, y1, y2, q0, q1, q2, q3⟩)
      (first
        | (go_at_call 33; refine (HKI.out _).mono ?_; rintro e wa ⟨rfl, hua⟩; have HUa := Lib.hid (HU1d.out.trans hua); have ay0 := hua.cell dy0 (by simp); have ay1 := hua.cell dy1 (by simp); have ay2 := hua.cell dy2 (by simp); have aq0 := hua.cell dq0 (by simp); have aq1 := hua.cell dq1 (by simp); have aq2 := hua.cell dq2 (by simp); have aq3 := hua.cell dq3 (by simp); clear hua)
        | (go_at_call 35; refine (HSQ.out _ HUa.out).mono ?_; rintro e wb ⟨rfl, hub⟩; have HUb := Lib.hid (HUa.out.trans hub); have by0 := hub.cell ay0 (by simp); have by1 := hub.cell ay1 (by simp); have by2 := hub.cell ay2 (by simp); have bq0 := hub.cell aq0 (by simp); have bq1 := hub.cell aq1 (by simp); have bq2 := hub.cell aq2 (by simp); have bq3 := hub.cell aq3 (by simp); clear hub))
    rename_i hheld
    clear hheld
    clear dy0 dy1 dy2 dq0 dq1 dq2 dq3 ay0 ay1 ay2 aq0 aq1 aq2 aq3 by0 by1 by2 bq0 bq1 bq2 bq3 y0 y1 y2 q0 q1 q2 q3 hadd hov htv hkv HKI HSQ HUa HU1d
    have hsz := bs_size l
    go_wp2_with fail
    go_loopw [7, 9] (fun v iv wr => ∃ i : Nat, i ≤ l.length ∧ iv = .int .i64 i ∧ Hid (OwnI wr w.heap.size 3 v (refsL (l.take i) 0)) ∧ Hid (Upd [] w wr)) (fun _ iv _ => l.length - (intOf iv).toNat)
    case atStart => exact ⟨0, by omega, rfl, OwnI.nil _ _ _, HUb.out⟩
    case round =>
      obtain ⟨i, hi, rfl, HX, HU⟩ := hrel
      obtain ⟨wo, rfl⟩ : ∃ wo : World, wo = wr := ⟨_, rfl⟩
      obtain ⟨vp, vc, hv⟩ := HX.out.shape
      by_cases hlt : i < l.length
      · have hsi : i < (bs l).size := by rw [bs_size]; exact hlt
        have HT : Hid (refsL (l.take (i + 1)) 0 = refsL (l.take i) 0 ++ if (bs l)[i]'hsi = lR then [(i : Int)] else []) := by
          show _ = _
          rw [List.take_succ_eq_append_getElem hlt, refsL_snoc, bs_byte, List.getD_eq_getElem?_getD, List.getElem?_eq_getElem hlt, List.length_take, Nat.min_eq_left hi, Nat.zero_add]
          rfl
        have hLl : (refsL (l.take i) 0).length ≤ l.length := Nat.le_trans (refsL_le _ _) (by rw [List.length_take]; omega)
        generalize hL : (refsL (l.take i) 0).length = L at hv hLl
        subst hv
        have HL := Lib.hid hL
        clear hL
        by_cases hc82 : (bs l)[i]'hsi = lR
        · have HT3 : Hid (refsL (l.take (i + 1)) 0 = refsL (l.take i) 0 ++ [(i : Int)]) := by
            have := HT.out
            rwa [if_pos hc82] at this
          have hcn : ((((bs l)[i]'hsi).toNat : Int) == 82) = true := by rw [hc82]; rfl
          clear HT hc82
          go_wp2_with (at_builtin; refine stop_here ?_)
          refine Hid.mk ?_
          have hrow : (wo.alloc (.cells #[.int .i64 (i : Int)] 3)).ownsRow w.heap.size 3 1 (.slice vp L vc) L ((refsL (l.take i) 0).map (Value.int .i64)) := by
            have h := row_upd HX.out ((Upd.refl [] wo).alloc (.cells #[.int .i64 (i : Int)] 3)) (by simp)
            rwa [HL.out] at h
          have hsw := HU.out.size
          refine (wpList_append_src rfl _ _ 36 rfl w.heap.size 3 i0 _ 1 8 Tryz.underlying36 HII.out HZ0.out HY1.out HY2.out rfl (by decide) _ _ _ rfl hrow _ 1 ([(i : Int)].map (Value.int .i64)) rfl (.inr ⟨_, _, rfl, fun x u hu => by
            rw [Addr.add_lit, Nat.zero_add, cell_of (heap_alloc_new wo _)]
            show (([(i : Int)].map (Value.int .i64)).toArray)[x]? = some u
            rw [List.getElem?_toArray]
            exact hu⟩) rfl (oneI _) (by unfold maxLen; omega) (by omega) (by simp; omega) ?_)
          intro v' w7 hown hgr _
          have hown2 : w7.ownsRow w.heap.size 3 1 v' ((refsL (l.take i) 0).length + 1) ((refsL (l.take i) 0).map (Value.int .i64) ++ [.int .i64 (i : Int)]) := by rw [HL.out]; exact hown
          obtain ⟨hP, hW, hB⟩ := HX.out.push hown2 hgr
          rw [← HT3.out] at hP
          have HP := Lib.hid hP
          have HU7 := Lib.hid (HU.out.trans' hW (fun q hq hl => by have := (hB q hq).1; omega))
          clear hP hW hB hown hown2 hgr hrow hsw hcn
          go_wp2_with fail
          go_roundw
          case rel => exact ⟨i + 1, by omega, by go_num, HP.out, HU7.out⟩
          case measure => simp [intOf]; omega
        · have HT3 : Hid (refsL (l.take (i + 1)) 0 = refsL (l.take i) 0) := by
            have := HT.out
            rwa [if_neg hc82, List.append_nil] at this
          have hcn : ((((bs l)[i]'hsi).toNat : Int) == 82) = false := by
            rw [beq_eq_false_iff_ne]
            intro h
            apply hc82
            apply UInt8.toNat_inj.1
            show ((bs l)[i]'hsi).toNat = 82
            omega
          clear HT hc82
          go_wp2_with fail
          go_roundw
          case rel => exact ⟨i + 1, by omega, by go_num, by rw [HT3.out]; exact HX.out, HU.out⟩
          case measure => simp [intOf]; omega
      · obtain rfl : i = l.length := by omega
        have hx := HX.out
        rw [List.take_length] at hx
        have HXX := Lib.hid hx
        clear hx
        generalize hL : (refsL (l.take l.length) 0).length = L at hv
        subst hv
        clear hL
        go_wp2_with fail
        go_ret
        exact ⟨_, rfl, by rw [HR.out]; exact HXX.out, HU.out⟩

end Go.Proofs.YtpkdijbmomkdeaaGreatDoor
