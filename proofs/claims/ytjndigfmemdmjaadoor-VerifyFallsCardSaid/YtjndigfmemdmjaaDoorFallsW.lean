/- overdriveref.Instrs: a copy of code. The look at a method, plain: what falls off its end; what can't be reached. VerifyFalls: the law's walk. -/
import Derived.Test.YtjndigfmemdmjaaDoorWithW
import Derived.Test.YtjndigfmemdmjaaDoorSorted2
import Derived.Test.YtjndigfmemdmjaaDoorVerL6
import Derived.Test.YtjndigfmemdmjaaDoorMeetsW
/-! overdriveref.Instrs: a copy of code. -/
namespace Go.Proofs.YtjndigfmemdmjaaDoor
open Go.RowKit

theorem make_ins (w : World) (m : Nat) (h : m ≤ 1000000) : ∃ Z : Array Value, Z.size = m * 4 ∧ (Instr.makeSlice 35 (.int .i64 0) (.int .i64 (m : Int))).run Tryd.prog w = .ok (.slice (some ⟨w.heap.size, 0, none⟩) 0 m) (w.alloc (.cells Z 42)) := by
  obtain ⟨i0, hi, hz0, hz1, hz2⟩ := info_parts Tryd.infoInstr
  have hmk := run_make (P := Tryd.prog) w 35 42 i0 _ Tryd.underlying35 hi hz0 .i64 .i64 0 (m : Int) (by omega) (by omega) (by rw [hz2]; omega) (by omega)
  rw [hz1] at hmk
  refine ⟨_, ?_, hmk⟩
  rw [size_madeCells]
  rfl
theorem OwnX.from {w : World} {B B' : Nat} {v : Value} {xs : List Ins} (h : OwnX w B v xs) (hb : B' ≤ B) : OwnX w B' v xs := row_base h hb

set_option maxRecDepth 100000 in
set_option maxHeartbeats 2000000 in
theorem instrs_any (v : Value) (xs : List Ins) (w : World) (h : CodeAt w v xs) (hn : xs.length ≤ 1000) :
    Calls Tryd.prog 24 #[v] w fun e w' => ∃ u, e = .returned u ∧ OwnX w' w.heap.size u xs ∧ Upd [] w w' := by
  obtain ⟨i0, hi, hz0, hz1, hz2⟩ := info_parts Tryd.infoInstr
  have HI := Lib.hid hi
  have HZ0 := Lib.hid hz0
  have HZ1 := Lib.hid hz1
  have HZ2 := Lib.hid hz2
  clear hi hz0 hz1 hz2
  obtain ⟨a, cap, rfl, hl, hm, hx⟩ := h
  have HX0 := Lib.hid hx
  clear hx hm hl
  obtain ⟨Z, hZ, hmk⟩ := make_ins w xs.length (by omega)
  have HO := Lib.hid (show OwnX (w.alloc (.cells Z 42)) w.heap.size (.slice (some ⟨w.heap.size, 0, none⟩) 0 xs.length) [] from World.ownsRow_made w Z xs.length (Nat.le_refl _) (by unfold maxLen; omega) hZ)
  have HU0 := Lib.hid ((Upd.refl [] w).alloc (.cells Z 42))
  clear hZ
  go_enter Tryd.func24, Tryd.ntmps24
  go_wp2_with fail
  go_loopw [3, 4] (fun v iv wr => ∃ i : Nat, i ≤ xs.length ∧ iv = .int .i64 i ∧ Hid (OwnX wr w.heap.size v (xs.take i)) ∧ Hid (Upd [] w wr)) (fun _ iv _ => xs.length - (intOf iv).toNat)
  case atStart => exact ⟨0, by omega, rfl, HO.out, HU0.out⟩
  case round =>
    clear HO HU0
    obtain ⟨i, hi, rfl, HX, HU⟩ := hrel
    obtain ⟨wo, rfl⟩ : ∃ wo : World, wo = wr := ⟨_, rfl⟩
    have hli : (xs.take i).length = i := by rw [List.length_take]; omega
    obtain ⟨vp, vc, hv⟩ := HX.out.shape
    rw [hli] at hv
    subst hv
    have HLI := Lib.hid hli
    clear hli
    by_cases hlt : i < xs.length
    · obtain ⟨b, o, rfl, hbd, hi0, hi1, hi2, hi3⟩ := HX0.out i hlt
      have hi0 := HU.out.cell hi0 (by simp)
      have hi1 := HU.out.cell hi1 (by simp)
      have hi2 := HU.out.cell hi2 (by simp)
      have hi3 := HU.out.cell hi3 (by simp)
      have HT : Hid (xs.take i ++ [xs.getD i default] = xs.take (i + 1)) := by
        show _ = _
        rw [List.take_succ_eq_append_getElem hlt, List.getD_eq_getElem?_getD, List.getElem?_eq_getElem hlt]
        rfl
      generalize xs.getD i default = x at hi0 hi1 hi2 hi3 hbd HT
      obtain ⟨op, ia, ib, im⟩ := x
      simp only at hi0 hi1 hi2 hi3
      clear hbd
      go_wp2_with (at_builtin; refine stop_here ?_)
      refine Hid.mk ?_
      have hrow : (wo.alloc (.cells (xcells [⟨op, ia, ib, im⟩]).toArray 42)).ownsRow w.heap.size 42 4 (.slice vp (i) vc) (i) (xcells (xs.take i)) := by
        have h := HX.out.upd ((Upd.refl [] wo).alloc (.cells (xcells [⟨op, ia, ib, im⟩]).toArray 42))
        unfold OwnX at h
        rwa [HLI.out] at h
      have hsz := HU.out.size
      refine (wpList_append_src rfl _ _ 35 rfl w.heap.size 42 i0 _ 4 32 Tryd.underlying35 HI.out HZ0.out HZ1.out HZ2.out rfl (by decide) _ _ _ rfl hrow _ 1 (xcells [⟨op, ia, ib, im⟩]) rfl (.inr ⟨_, _, rfl, fun j u hu => by
        rw [Addr.add_lit, Nat.zero_add, cell_of (heap_alloc_new wo _)]
        show ((xcells [⟨op, ia, ib, im⟩]).toArray)[j]? = some u
        rw [List.getElem?_toArray]
        exact hu⟩) rfl (xcells_one _) (by unfold maxLen; omega) (by omega) (by simp; omega) ?_)
      intro v' w7 hown hgr _
      obtain ⟨hP, hW, hB⟩ := HX.out.push (ys := [⟨op, ia, ib, im⟩]) (by rw [HLI.out]; rfl) hown hgr
      have hP : OwnX w7 w.heap.size v' (xs.take (i + 1)) := by rw [HT.out] at hP; exact hP
      have HP := Lib.hid hP
      have HU7 := Lib.hid (HU.out.trans' hW (fun q hq hl => by have := (hB q hq).1; omega))
      obtain ⟨vp', vc', hv'⟩ := hP.shape
      subst hv'
      clear hP hW hB hown hgr hrow hsz
      have HL2 : Hid ((xs.take (i + 1)).length = i + 1) := by show _ = _; rw [List.length_take]; omega
      rw [HL2.out] at HP ⊢
      clear HL2 HT hi0 hi1 hi2 hi3
      go_wp2_with fail
      go_roundw
      case rel => exact ⟨i + 1, by omega, by go_num, HP.out, HU7.out⟩
      case measure => simp [intOf]; omega
    · obtain rfl : i = xs.length := by omega
      have HXX : Hid (OwnX wo w.heap.size (.slice vp xs.length vc) xs) := by
        have h := HX.out
        rwa [List.take_length] at h
      clear HX HLI
      go_wp2_with fail
      go_ret
      exact ⟨_, rfl, HXX.out, HU.out⟩
end Go.Proofs.YtjndigfmemdmjaaDoor

/-! The look at a method, plain: what falls off its end; what can't be reached. -/
namespace Go.Proofs.YtjndigfmemdmjaaDoor

def pairC : Nat → List Ins
  | 0 => []
  | n + 1 => ⟨1, 0, 0, 5⟩ :: ⟨35, 0, 0, 0⟩ :: pairC n
theorem pairC_len : ∀ n, (pairC n).length = 2 * n
  | 0 => rfl
  | n + 1 => by
    show (pairC n).length + 1 + 1 = _
    rw [pairC_len n]; omega
theorem pairC_get : ∀ (n i : Nat), i < 2 * n → ((pairC n).getD i default).op = if i % 2 = 0 then 1 else 35
  | 0, i, h => by omega
  | n + 1, 0, _ => rfl
  | n + 1, 1, _ => rfl
  | n + 1, i + 2, h => by
    have h1 := pairC_get n i (by omega)
    rw [show (i + 2) % 2 = i % 2 by omega, ← h1]
    rfl
theorem pairC_on (n i : Nat) (t : List Ins) (h : i < 2 * n) : ((pairC n ++ t).getD i default).op = if i % 2 = 0 then 1 else 35 := by
  rw [← pairC_get n i h, List.getD_eq_getElem?_getD, List.getElem?_append_left (by rw [pairC_len]; exact h), List.getD_eq_getElem?_getD]
theorem pairC_end (n i : Nat) (t : List Ins) : (pairC n ++ t).getD (2 * n + i) default = t.getD i default := by
  rw [List.getD_eq_getElem?_getD, List.getElem?_append_right (by rw [pairC_len]; omega), pairC_len, List.getD_eq_getElem?_getD, show 2 * n + i - 2 * n = i by omega]
theorem eff_in (p : Prg) (m : Meth) (x : Ins) (h : x.op = 34) : effL p m x = some ([], [lI]) := by
  unfold effL; simp [h]

def pairS (i : Nat) : List UInt8 := if i % 2 = 0 then [] else [lI]
theorem pairS_even {i : Nat} (h : i % 2 = 0) : pairS i = [] := if_pos h
theorem pairS_odd {i : Nat} (h : ¬ i % 2 = 0) : pairS i = [lI] := if_neg h
theorem beh_push {p : Prg} {m : Meth} {x : Ins} (i : Nat) (h : i % 2 = 0) (hx : x.op = 1 ∨ x.op = 34) : behL p m x (pairS i) = .ok (pairS (i + 1)) := by
  have he : effL p m x = some ([], [lI]) := by
    rcases hx with h1 | h1
    · exact eff_const _ _ _ h1
    · exact eff_in _ _ _ h1
  rw [pairS_even h, pairS_odd (show ¬ (i + 1) % 2 = 0 by omega)]
  have := behL_of (p := p) (m := m) (x := x) (u := []) (pop := []) (push := [lI]) (by omega) (by omega) (by omega) he (by decide) (.inl (by omega))
  exact this
theorem beh_put {p : Prg} {m : Meth} {x : Ins} (i : Nat) (h : ¬ i % 2 = 0) (hx : x.op = 35) : behL p m x (pairS i) = .ok (pairS (i + 1)) := by
  rw [pairS_odd h, pairS_even (show (i + 1) % 2 = 0 by omega)]
  have := behL_of (p := p) (m := m) (x := x) (u := []) (pop := [lI]) (push := []) (by omega) (by omega) (by omega) (eff_out _ _ _ hx) (by decide) (.inl (by omega))
  exact this
theorem pair_beh (p : Prg) (m : Meth) (n i : Nat) (t : List Ins) (h : i < 2 * n) : behL p m ((pairC n ++ t).getD i default) (pairS i) = .ok (pairS (i + 1)) := by
  have h1 := pairC_on n i t h
  by_cases h2 : i % 2 = 0
  · rw [if_pos h2] at h1
    exact beh_push i h2 (.inl h1)
  · rw [if_neg h2] at h1
    exact beh_put i h2 h1
theorem pair_next (n i : Nat) (t : List Ins) (h : i < 2 * n) : nextL (pairC n ++ t) i = [(i : Int) + 1] := by
  have h1 := pairC_on n i t h
  refine nextL_on (by rw [List.length_append, pairC_len]; omega) ?_ ?_ ?_ <;> (rw [h1]; split <;> decide)
/-- It falls off its end. -/
theorem fall_bad (n : Nat) (p : Prg) : lookM p (plainM (pairC n ++ [⟨34, 0, 0, 0⟩, ⟨35, 0, 0, 0⟩])) = .error (110, 2 * n + 1) := by
  have hl : (pairC n ++ [(⟨34, 0, 0, 0⟩ : Ins), ⟨35, 0, 0, 0⟩]).length = 2 * n + 2 := by rw [List.length_append, pairC_len]; rfl
  have h0 : (pairC n ++ [(⟨34, 0, 0, 0⟩ : Ins), ⟨35, 0, 0, 0⟩]).getD (2 * n) default = ⟨34, 0, 0, 0⟩ := pairC_end n 0 _
  have h1 : (pairC n ++ [(⟨34, 0, 0, 0⟩ : Ins), ⟨35, 0, 0, 0⟩]).getD (2 * n + 1) default = ⟨35, 0, 0, 0⟩ := pairC_end n 1 _
  have hr : Row p (plainM (pairC n ++ [⟨34, 0, 0, 0⟩, ⟨35, 0, 0, 0⟩])) pairS (2 * n + 1) := by
    refine ⟨by show _ < (pairC n ++ [(⟨34, 0, 0, 0⟩ : Ins), ⟨35, 0, 0, 0⟩]).length; omega, rfl, fun i hi => ?_, fun i hi => ?_⟩
    · show behL _ _ ((pairC n ++ [(⟨34, 0, 0, 0⟩ : Ins), ⟨35, 0, 0, 0⟩]).getD i default) _ = _
      rcases Nat.lt_or_ge i (2 * n) with h | h
      · exact pair_beh _ _ n i _ h
      · obtain rfl : i = 2 * n := by omega
        rw [h0]
        exact beh_push _ (by omega) (.inr rfl)
    · show nextL (pairC n ++ [(⟨34, 0, 0, 0⟩ : Ins), ⟨35, 0, 0, 0⟩]) i = _
      rcases Nat.lt_or_ge i (2 * n) with h | h
      · exact pair_next n i _ h
      · obtain rfl : i = 2 * n := by omega
        exact nextL_on (by omega) (by rw [h0]; decide) (by rw [h0]; decide) (by rw [h0]; decide)
  refine hr.fall (t := pairS (2 * n + 1 + 1)) ?_ ?_ hl
  · show behL _ _ ((pairC n ++ [(⟨34, 0, 0, 0⟩ : Ins), ⟨35, 0, 0, 0⟩]).getD (2 * n + 1) default) _ = _
    rw [h1]
    exact beh_put _ (by omega) rfl
  · show nextL (pairC n ++ [(⟨34, 0, 0, 0⟩ : Ins), ⟨35, 0, 0, 0⟩]) ((2 * n + 1 : Nat) : Int) = _
    exact nextL_on (by omega) (by rw [h1]; decide) (by rw [h1]; decide) (by rw [h1]; decide)
theorem pair_most : ∀ i, mostS pairS i = min 1 i
  | 0 => rfl
  | i + 1 => by
    show max (mostS pairS i) (max (pairS i).length (pairS (i + 1)).length) = _
    rw [pair_most i]
    by_cases h : i % 2 = 0
    · rw [pairS_even h, pairS_odd (show ¬ (i + 1) % 2 = 0 by omega)]
      show max (min 1 i) (max 0 1) = _
      omega
    · rw [pairS_odd h]
      have : (pairS (i + 1)).length ≤ 1 := by unfold pairS; split <;> simp
      show max (min 1 i) (max 1 (pairS (i + 1)).length) = _
      omega
/-- Behind a Ret: whatever may be. -/
theorem fall_ok (n : Nat) (t : List Ins) (p : Prg) : ∃ s, lookM p (plainM (pairC n ++ ⟨33, 0, 0, 0⟩ :: t)) = .ok s ∧ s.most = min 1 n := by
  have h0 : (pairC n ++ ⟨33, 0, 0, 0⟩ :: t).getD (2 * n) default = ⟨33, 0, 0, 0⟩ := pairC_end n 0 _
  have hl : 2 * n < (pairC n ++ ⟨33, 0, 0, 0⟩ :: t).length := by rw [List.length_append, pairC_len]; simp
  let st : Nat → List UInt8 := fun i => if i ≤ 2 * n then pairS i else []
  have hst : ∀ i, i ≤ 2 * n → st i = pairS i := fun i hi => if_pos hi
  have hr : Row p (plainM (pairC n ++ ⟨33, 0, 0, 0⟩ :: t)) st (2 * n) := by
    refine ⟨hl, rfl, fun i hi => ?_, fun i hi => ?_⟩
    · rw [hst i (by omega), hst (i + 1) (by omega)]
      exact pair_beh _ _ n i _ hi
    · exact pair_next n i _ hi
  refine ⟨_, hr.ret ?_ ?_, ?_⟩
  · show behL _ _ ((pairC n ++ ⟨33, 0, 0, 0⟩ :: t).getD (2 * n) default) _ = _
    rw [h0, hst _ (Nat.le_refl _), pairS_even (by omega), show st (2 * n + 1) = [] from if_neg (by omega)]
    have := behL_of (p := p) (m := plainM (pairC n ++ ⟨33, 0, 0, 0⟩ :: t)) (x := ⟨33, 0, 0, 0⟩) (u := []) (pop := []) (push := []) (by decide) (by decide) (by decide) (by rw [eff_ret _ _ _ rfl]; show some (ByteArray.empty.toList, []) = _; rw [empty_toList]) (by decide) (.inr rfl)
    exact this
  · exact nextL_ret hl (by show ((pairC n ++ ⟨33, 0, 0, 0⟩ :: t).getD (2 * n) default).op = 33; rw [h0])
  · show mostS st (2 * n + 1) = _
    have hm : ∀ i, i ≤ 2 * n → mostS st i = mostS pairS i := by
      intro i
      induction i with
      | zero => intro _; rfl
      | succ i ih =>
        intro hi
        show max (mostS st i) (max (st i).length (st (i + 1)).length) = max (mostS pairS i) (max (pairS i).length (pairS (i + 1)).length)
        rw [ih (by omega), hst i (by omega), hst (i + 1) (by omega)]
    show max (mostS st (2 * n)) (max (st (2 * n)).length (st (2 * n + 1)).length) = _
    rw [hm _ (Nat.le_refl _), pair_most, hst _ (Nat.le_refl _), pairS_even (by omega), show st (2 * n + 1) = [] from if_neg (by omega)]
    show max (min 1 (2 * n)) (max 0 0) = _
    omega

end Go.Proofs.YtjndigfmemdmjaaDoor

/-! VerifyFalls: the law's walk. -/
namespace Go.Proofs.YtjndigfmemdmjaaDoor
open Go.RowKit

theorem tmodF (a n : Int) (h : 0 < n) : -n < a.tmod n ∧ a.tmod n < n := by
  have h1 := Int.tmod_lt_of_pos a h
  have h2 := Int.tmod_lt_of_pos (-a) h
  rw [Int.neg_tmod] at h2
  omega
theorem pair_snoc : ∀ n, pairC n ++ [⟨1, 0, 0, 5⟩, ⟨35, 0, 0, 0⟩] = pairC (n + 1)
  | 0 => rfl
  | n + 1 => by
    have ih := pair_snoc n
    show ⟨1, 0, 0, 5⟩ :: ⟨35, 0, 0, 0⟩ :: (pairC n ++ [⟨1, 0, 0, 5⟩, ⟨35, 0, 0, 0⟩]) = _
    rw [ih]; rfl
/-- An instruction that may be wherever it stands. -/
def easy (x : Ins) : Bool := decide (x.a = 0) && decide (x.b = 0) && decide (x.op = 1 ∨ x.n = 0) && decide (x.op = 1 ∨ x.op = 2 ∨ x.op = 6 ∨ x.op = 7 ∨ x.op = 8 ∨ x.op = 31 ∨ x.op = 33 ∨ x.op = 34 ∨ x.op = 35) && decide (-1000 ≤ x.n ∧ x.n ≤ 1000)
theorem easy_is {x : Ins} (h : easy x = true) : x.a = 0 ∧ x.b = 0 ∧ (x.op = 1 ∨ x.n = 0) ∧ (x.op = 1 ∨ x.op = 2 ∨ x.op = 6 ∨ x.op = 7 ∨ x.op = 8 ∨ x.op = 31 ∨ x.op = 33 ∨ x.op = 34 ∨ x.op = 35) ∧ -1000 ≤ x.n ∧ x.n ≤ 1000 := by
  simp only [easy, Bool.and_eq_true, decide_eq_true_eq] at h
  exact ⟨h.1.1.1.1, h.1.1.1.2, h.1.1.2, h.1.2, h.2⟩
theorem easy_code {cs : List ByteArray} {nm : Nat} {m : Meth} {x : Ins} (h : easy x = true) : insCode cs nm m x = 0 := by
  obtain ⟨ha, hb, hn, ho, _⟩ := easy_is h
  unfold insCode
  rw [if_neg (by omega), if_neg (by omega), if_neg (by omega), if_neg (by omega), if_neg (by omega), if_neg (by omega), if_neg]
  rintro (⟨_, h1⟩ | ⟨_, h1⟩ | ⟨h1, h2⟩)
  · exact h1 ha
  · exact h1 hb
  · omega
theorem easy_get {l : List Ins} (h : l.all easy = true) {q : Nat} (hq : q < l.length) : easy (l.getD q default) = true :=
  List.all_eq_true.1 h _ (by rw [List.getD_eq_getElem?_getD, List.getElem?_eq_getElem hq]; exact List.getElem_mem hq)
theorem easy_small {l : List Ins} (h : l.all easy = true) : ∀ i, i < l.length → (l.getD i default).bd := by
  intro i hi
  obtain ⟨ha, hb, _, ho, h1, h2⟩ := easy_is (easy_get h hi)
  unfold Ins.bd
  omega
theorem easy_ok {l : List Ins} (h : l.all easy = true) (h1 : 1 ≤ l.length) (h2 : l.length ≤ 120) : (withM (plainM l)).Ok := by
  have two : ∀ j, j < (withM (plainM l)).ms.length → j = 0 ∨ j = 1 := by intro j hj; have : (withM (plainM l)).ms.length = 2 := rfl; omega
  refine ⟨by show 1 ≤ 12; omega, by show 1 ≤ 2; omega, by show 2 ≤ 12; omega, fun j hj => ?_, fun j hj => ?_, fun j hj q hq => ?_⟩
  · obtain rfl : j = 0 := by have : (withM (plainM l)).cs.length = 1 := rfl; omega
    show clsCode ⟨#[73, 82]⟩ = 0
    decide +kernel
  · rcases two j hj with rfl | rfl
    · show headCode 0 ⟨ByteArray.empty, ByteArray.empty, ByteArray.empty, [⟨33, 0, 0, 0⟩]⟩ = 0
      decide +kernel
    · show headCode 1 (plainM l) = 0
      unfold headCode
      rw [if_neg (by
        show ¬ (12 < 0 ∨ (12 : Int) - ((0 : Nat) : Int) < ((0 : Nat) : Int) ∨ l.length < 1 ∨ 120 < l.length)
        omega), if_neg]
      rintro (h | h | h | ⟨h, _⟩)
      · exact h (show lettersB ByteArray.empty = true by decide +kernel)
      · exact h (show lettersB ByteArray.empty = true by decide +kernel)
      · exact h (show retOk ByteArray.empty by decide +kernel)
      · omega
  · rcases two j hj with rfl | rfl
    · obtain rfl : q = 0 := by have h : q < 1 := hq; omega
      show insCode _ _ _ ⟨33, 0, 0, 0⟩ = 0
      exact easy_code (by decide)
    · exact easy_code (easy_get h hq)
theorem pair_easy : ∀ n, (pairC n).all easy = true
  | 0 => rfl
  | n + 1 => by
    show (([⟨1, 0, 0, 5⟩, ⟨35, 0, 0, 0⟩] : List Ins) ++ pairC n).all easy = true
    rw [List.all_append, pair_easy n]
    decide
def fallC (n : Nat) : List Ins := pairC n ++ [⟨34, 0, 0, 0⟩, ⟨35, 0, 0, 0⟩]
theorem fallC_easy (n : Nat) : (fallC n).all easy = true := by unfold fallC; rw [List.all_append, pair_easy]; decide
theorem fallC_len (n : Nat) : (fallC n).length = 2 * n + 2 := by unfold fallC; rw [List.length_append, pairC_len]; rfl
def opT (r : Nat) : Int := [1, 2, 8, 6, 33, 31, 7].getD r 0
theorem opT_easy (r : Nat) (h : r < 7) : easy ⟨opT r, 0, 0, 0⟩ = true := (show ∀ r, r < 7 → easy ⟨opT r, 0, 0, 0⟩ = true by decide) r h

set_option maxRecDepth 100000 in
set_option maxHeartbeats 4000000 in
theorem fallsW_any (E : Nat → Addr) (lv : Value) (ls : List Ins) (n : Int) (w : World) (hS : SentAt w E) (hc : CodeAt w lv ls) :
    Calls Tryd.prog 7 #[lv, .int .i64 n] w fun e w' => e = .returned (.bool true) ∧ Upd [] w w' := by
  obtain ⟨i0, hi, hz0, hz1, hz2⟩ := info_parts Tryd.infoInstr
  have HI := Lib.hid hi
  have HZ0 := Lib.hid hz0
  have HZ1 := Lib.hid hz1
  have HZ2 := Lib.hid hz2
  clear hi hz0 hz1 hz2
  have HS := Lib.hid hS
  obtain ⟨la, lcap, rfl, hll, hlm, hlx⟩ := hc
  have HL0 := Lib.hid hlx
  clear hlx hll hlm hS
  have hb1 := tmodF n 9 (by omega)
  have hb2 : 0 ≤ (n.tmod 9 + 9).tmod 9 ∧ (n.tmod 9 + 9).tmod 9 < 9 := ⟨Int.tmod_nonneg _ (by omega), Int.tmod_lt_of_pos _ (by omega)⟩
  have e1 : IntKind.i64.wrap (n.tmod 9 + 9) = n.tmod 9 + 9 := IntWalk.i64_in _ (by omega)
  obtain ⟨k, hk⟩ := Int.eq_ofNat_of_zero_le hb2.1
  have hk9 : k < 9 := by omega
  clear hb1 hb2
  go_enter Tryd.func7, Tryd.ntmps7
  go_wp2_with fail
  refine (first7_any E w HS.out).mono ?_
  rintro e w1 ⟨rfl, hu1⟩
  have HU1 := Lib.hid hu1
  clear hu1
  by_cases hl100 : ls.length > 100
  · have d0 : decide ((ls.length : Int) > 100) = true := by simp; omega
    go_wp2_with fail
    go_ret
    exact ⟨rfl, HU1.out⟩
  have d0 : decide ((ls.length : Int) > 100) = false := by simp; omega
  go_wp2_with fail
  go_loopw [6, 7] (fun v iv wr => ∃ i : Nat, i ≤ k ∧ iv = .int .i64 i ∧ Hid (OwnX wr w.heap.size v (pairC i)) ∧ Hid (Upd [] w wr)) (fun _ iv _ => k - (intOf iv).toNat)
  case atStart => exact ⟨0, by omega, rfl, OwnX.nil _ _, HU1.out⟩
  case round =>
    clear d0
    obtain ⟨i, hi, rfl, HX, HU⟩ := hrel
    obtain ⟨wo, rfl⟩ : ∃ wo : World, wo = wr := ⟨_, rfl⟩
    have hli := pairC_len i
    obtain ⟨vp, vc, hv⟩ := HX.out.shape
    rw [hli] at hv
    subst hv
    have HLI := Lib.hid hli
    clear hli
    by_cases hlt : i < k
    · go_wp2_with (at_builtin; refine stop_here ?_)
      refine Hid.mk ?_
      have hrow : (wo.alloc (.cells (xcells [⟨1, 0, 0, 5⟩, ⟨35, 0, 0, 0⟩]).toArray 42)).ownsRow w.heap.size 42 4 (.slice vp (2 * i) vc) (2 * i) (xcells (pairC i)) := by
        have h := HX.out.upd ((Upd.refl [] wo).alloc (.cells (xcells [⟨1, 0, 0, 5⟩, ⟨35, 0, 0, 0⟩]).toArray 42))
        unfold OwnX at h
        rwa [HLI.out] at h
      have hsz := HU.out.size
      refine (wpList_append_src rfl _ _ 35 rfl w.heap.size 42 i0 _ 4 32 Tryd.underlying35 HI.out HZ0.out HZ1.out HZ2.out rfl (by decide) _ _ _ rfl hrow _ 2 (xcells [⟨1, 0, 0, 5⟩, ⟨35, 0, 0, 0⟩]) rfl (.inr ⟨_, _, rfl, fun j u hu => by
        rw [Addr.add_lit, Nat.zero_add, cell_of (heap_alloc_new wo _)]
        show ((xcells [⟨1, 0, 0, 5⟩, ⟨35, 0, 0, 0⟩]).toArray)[j]? = some u
        rw [List.getElem?_toArray]
        exact hu⟩) rfl (xcells_one _) (by unfold maxLen; omega) (by omega) (by simp; omega) ?_)
      intro v' w7 hown hgr _
      obtain ⟨hP, hW, hB⟩ := HX.out.push (ys := [⟨1, 0, 0, 5⟩, ⟨35, 0, 0, 0⟩]) (by rw [HLI.out]; rfl) hown hgr
      have hP : OwnX w7 w.heap.size v' (pairC (i + 1)) := by rw [pair_snoc] at hP; exact hP
      have HP := Lib.hid hP
      have HU7 := Lib.hid (HU.out.trans' hW (fun q hq hl => by have := (hB q hq).1; omega))
      obtain ⟨vp', vc', hv'⟩ := hP.shape
      subst hv'
      clear hP hW hB hown hgr hrow hsz
      have HL2 := Lib.hid (pairC_len (i + 1))
      rw [HL2.out] at HP ⊢
      clear HL2
      go_wp2_with fail
      go_roundw
      case rel => exact ⟨i + 1, by omega, by go_num, HP.out, HU7.out⟩
      case measure => simp [intOf]; omega
    · obtain rfl : i = k := by omega
      clear HU1
      have hins := instrs_any (.slice vp (2 * i) vc) (pairC i) wo (by have := HX.out.code (easy_small (pair_easy i)); exact this) (by rw [HLI.out]; omega)
      have HINS := Lib.hid hins
      clear hins
      go_wp2_with fail
      refine HINS.out.mono ?_
      rintro e w5 ⟨u, rfl, hux, hu5⟩
      have HX5 := Lib.hid hux
      have HU5 := Lib.hid (HU.out.trans hu5)
      have HC5 := Lib.hid (HX.out.upd hu5)
      have hz5 := hu5.size
      have hz6 := HU.out.size
      have HWZ := Lib.hid (HU.out.size)
      have HC0 := Lib.hid (HX.out.lt)
      obtain ⟨up, uc, hu⟩ := hux.shape
      rw [HLI.out] at hu
      subst hu
      clear hux hu5 HX HU HINS
      go_wp2_with (at_builtin; refine stop_here ?_)
      refine Hid.mk ?_
      have hrow : (w5.alloc (.cells (xcells [⟨34, 0, 0, 0⟩, ⟨35, 0, 0, 0⟩]).toArray 42)).ownsRow wo.heap.size 42 4 (.slice up (2 * i) uc) (2 * i) (xcells (pairC i)) := by
        have h := HX5.out.upd ((Upd.refl [] w5).alloc (.cells (xcells [⟨34, 0, 0, 0⟩, ⟨35, 0, 0, 0⟩]).toArray 42))
        unfold OwnX at h
        rwa [HLI.out] at h
      have hsz := HU5.out.size
      refine (wpList_append_src rfl _ _ 35 rfl wo.heap.size 42 i0 _ 4 32 Tryd.underlying35 HI.out HZ0.out HZ1.out HZ2.out rfl (by decide) _ _ _ rfl hrow _ 2 (xcells [⟨34, 0, 0, 0⟩, ⟨35, 0, 0, 0⟩]) rfl (.inr ⟨_, _, rfl, fun j u hu => by
        rw [Addr.add_lit, Nat.zero_add, cell_of (heap_alloc_new w5 _)]
        show ((xcells [⟨34, 0, 0, 0⟩, ⟨35, 0, 0, 0⟩]).toArray)[j]? = some u
        rw [List.getElem?_toArray]
        exact hu⟩) rfl (xcells_one _) (by unfold maxLen; omega) (by omega) (by simp; omega) ?_)
      intro v' w7 hown hgr _
      obtain ⟨hP, hW, hB⟩ := HX5.out.push (ys := [⟨34, 0, 0, 0⟩, ⟨35, 0, 0, 0⟩]) (by rw [HLI.out]; rfl) hown hgr
      have hP : OwnX w7 wo.heap.size v' (fallC i) := by exact hP
      have HP := Lib.hid hP
      have HU7 := Lib.hid (HU5.out.trans' hW (fun q hq hl => by have := (hB q hq).1; have := HWZ.out; omega))
      have HC7 : Hid (OwnX w7 w.heap.size (.slice vp (2 * i) vc) (pairC i)) := row_upd HC5.out hW (fun b hb h => by have h1 := (hB b h).1; have h2 := (HC0.out b hb).2; omega)
      obtain ⟨up', uc', hv'⟩ := hP.shape
      subst hv'
      clear hP hW hB hown hgr hrow hsz
      have hcd := HP.out.code (easy_small (fallC_easy i))
      clear HP HX5
      have HWITH := Lib.hid (with_any (plainM (fallC i)) _ w7 hcd ⟨Nat.zero_le _, Nat.zero_le _, Nat.zero_le _⟩)
      clear hcd hz5 hz6
      rw [show (plainM (fallC i)).params = ⟨#[]⟩ from rfl, show (plainM (fallC i)).locals = ⟨#[]⟩ from rfl, show (plainM (fallC i)).ret = ⟨#[]⟩ from rfl] at HWITH
      go_wp2_with fail
      refine HWITH.out.mono ?_
      rintro e w8 ⟨cv, mv, rfl, hc8, hm8, hu8⟩
      have HU8 := Lib.hid (HU7.out.trans hu8)
      have HC8 := Lib.hid (HC7.out.upd hu8)
      have HOF := Lib.hid (ofV_any (withM (plainM (fallC i))) cv mv E w8 (HS.out.upd (HU7.out.trans hu8)) hc8 hm8)
      clear hc8 hm8 hu8 HWITH HC7
      go_wp2_with fail
      refine HOF.out.mono ?_
      rintro e w9 ⟨v9, rfl, hend⟩
      obtain ⟨ev, rfl, herr, hu9⟩ := hend.bad (easy_ok (fallC_easy i) (by rw [fallC_len]; omega) (by rw [fallC_len]; omega)) (k := 1) (by show 1 < 2; omega) (by
        intro q hq
        obtain rfl : q = 0 := by omega
        exact ret_first _) (fall_bad i _)
      have HU9 := Lib.hid (HU8.out.trans hu9)
      have HC9 := Lib.hid (HC8.out.upd hu9)
      have HER := Lib.hid herr
      obtain ⟨tz, tp, rfl⟩ : ∃ tz tp, ev = .iface tz (.pointer tp) := by
        rcases herr.2 with ⟨h, _⟩ | ⟨_, _, _, _, _, h, _⟩
        · cases h
        · exact ⟨_, _, h⟩
      clear hend hu9 herr HC8 HU8 HU7 HOF HC5 HU5
      have hm1 : IntKind.i64.wrap (2 * (i : Int)) = 2 * (i : Int) := IntWalk.i64_in _ (by omega)
      have hm2 : IntKind.i64.wrap (2 * (i : Int) + 1) = 2 * (i : Int) + 1 := IntWalk.i64_in _ (by omega)
      go_wp2_with fail
      refine (there_fault 110 1 (2 * (i : Int) + 1) _).mono ?_
      rintro e w10 ⟨fb, rfl, hfi, hu10, _⟩
      have HU10 := Lib.hid (HU9.out.trans hu10)
      have HC10 := Lib.hid (HC9.out.upd hu10)
      have HSM := Lib.hid (same_any E (.iface tz (.pointer tp)) 110 110 [((1 : Nat) : Int), ((2 * i + 1 : Nat) : Int)] [1, 2 * (i : Int) + 1] _ fb w10 (HS.out.upd HU10.out) (HER.out.upd hu10) hfi (by simp) (by simp))
      rw [decide_eq_true (show (110 : Int) = 110 ∧ [((1 : Nat) : Int), ((2 * i + 1 : Nat) : Int)] = [1, 2 * (i : Int) + 1] from ⟨rfl, by simp⟩)] at HSM
      clear hu10 hfi HU9 HC9 HER hm1 hm2
      go_wp2_with fail
      refine HSM.out.mono ?_
      rintro e w11 ⟨rfl, hu11⟩
      have HU11 := Lib.hid (HU10.out.trans hu11)
      have HC11 := Lib.hid (HC10.out.upd hu11)
      clear hu11 HU10 HC10 HSM
      have HINS := Lib.hid (instrs_any (.slice vp (2 * i) vc) (pairC i) w11 (HC11.out.code (easy_small (pair_easy i))) (by rw [HLI.out]; omega))
      go_wp2_with fail
      refine HINS.out.mono ?_
      rintro e w12 ⟨u, rfl, hux, hu12⟩
      have HX12 := Lib.hid (hux.from HU11.out.size)
      have HU12 := Lib.hid (HU11.out.trans hu12)
      obtain ⟨xp, xc, hu⟩ := hux.shape
      rw [HLI.out] at hu
      subst hu
      clear hux hu12 HINS HC11
      go_wp2_with (at_builtin; refine stop_here ?_)
      refine Hid.mk ?_
      have hrow : (w12.alloc (.cells (xcells [⟨33, 0, 0, 0⟩]).toArray 42)).ownsRow w.heap.size 42 4 (.slice xp (2 * i) xc) (2 * i) (xcells (pairC i)) := by
        have h := HX12.out.upd ((Upd.refl [] w12).alloc (.cells (xcells [⟨33, 0, 0, 0⟩]).toArray 42))
        unfold OwnX at h
        rwa [HLI.out] at h
      have hsz := HU12.out.size
      refine (wpList_append_src rfl _ _ 35 rfl w.heap.size 42 i0 _ 4 32 Tryd.underlying35 HI.out HZ0.out HZ1.out HZ2.out rfl (by decide) _ _ _ rfl hrow _ 1 (xcells [⟨33, 0, 0, 0⟩]) rfl (.inr ⟨_, _, rfl, fun j u hu => by
        rw [Addr.add_lit, Nat.zero_add, cell_of (heap_alloc_new w12 _)]
        show ((xcells [⟨33, 0, 0, 0⟩]).toArray)[j]? = some u
        rw [List.getElem?_toArray]
        exact hu⟩) rfl (xcells_one _) (by unfold maxLen; omega) (by omega) (by simp; omega) ?_)
      intro v' w13 hown hgr _
      obtain ⟨hP, hW, hB⟩ := HX12.out.push (ys := [⟨33, 0, 0, 0⟩]) (by rw [HLI.out]; rfl) hown hgr
      have hP : OwnX w13 w.heap.size v' (pairC i ++ ⟨33, 0, 0, 0⟩ :: []) := by exact hP
      have HP := Lib.hid hP
      have HU13 := Lib.hid (HU12.out.trans' hW (fun q hq hl => by have := (hB q hq).1; omega))
      obtain ⟨xp', xc', hv'⟩ := hP.shape
      subst hv'
      clear hP hW hB hown hgr hrow hsz
      clear HX12 HU12 HU11
      have HL3 : Hid ((pairC i ++ (⟨33, 0, 0, 0⟩ : Ins) :: []).length = 2 * i + 1 + 0) := by show _ = _; rw [List.length_append, HLI.out]; rfl
      rw [HL3.out] at HP ⊢
      clear HL3
      go_wp2_with fail
      go_loopw [10, 11] (fun v iv wr => ∃ (t : List Ins) (j : Nat), t.length = j ∧ j ≤ ls.length ∧ iv = .int .i64 j ∧ Hid (t.all easy = true) ∧ Hid (OwnX wr w.heap.size v (pairC i ++ ⟨33, 0, 0, 0⟩ :: t)) ∧ Hid (Upd [] w wr)) (fun _ iv _ => ls.length - (intOf iv).toNat)
      case atStart => exact ⟨[], 0, rfl, by omega, rfl, rfl, HP.out, HU13.out⟩
      case round =>
        clear HP HU13
        obtain ⟨t, j, htj, hj, rfl, HTE, HX, HU⟩ := hrel
        obtain ⟨wo, rfl⟩ : ∃ wo : World, wo = wr := ⟨_, rfl⟩
        have hli : (pairC i ++ (⟨33, 0, 0, 0⟩ : Ins) :: t).length = 2 * i + 1 + j := by rw [List.length_append, HLI.out, List.length_cons, htj]; omega
        obtain ⟨yp, yc, hv⟩ := HX.out.shape
        rw [hli] at hv
        subst hv
        have HLJ := Lib.hid hli
        have HTJ := Lib.hid htj
        clear hli htj
        by_cases hlt2 : j < ls.length
        · obtain ⟨b, o, rfl, hbd, hi0, hi1, hi2, hi3⟩ := HL0.out j hlt2
          have hAL := HU.out.alloc (.cells #[.int .i64 1, .int .i64 2, .int .i64 8, .int .i64 6, .int .i64 33, .int .i64 31, .int .i64 7] 3)
          have hy0 := HU.out.cell hi0 (by simp)
          have hy1 := hAL.cell hi0 (by simp)
          generalize (ls.getD j default).op = y at hy0 hy1
          have hb1 := tmodF y 7 (by omega)
          have hb2 : 0 ≤ (y.tmod 7 + 7).tmod 7 ∧ (y.tmod 7 + 7).tmod 7 < 7 := ⟨Int.tmod_nonneg _ (by omega), Int.tmod_lt_of_pos _ (by omega)⟩
          have f1 : IntKind.i64.wrap (y.tmod 7 + 7) = y.tmod 7 + 7 := IntWalk.i64_in _ (by omega)
          obtain ⟨r, hr⟩ := Int.eq_ofNat_of_zero_le hb2.1
          have hr7 : r < 7 := by omega
          have hlit : (wo.alloc (.cells #[.int .i64 1, .int .i64 2, .int .i64 8, .int .i64 6, .int .i64 33, .int .i64 31, .int .i64 7] 3)).cell? ⟨wo.heap.size, r, none⟩ = some (.int .i64 (opT r)) := by
            rw [cell_of (heap_alloc_new wo _)]
            have : r = 0 ∨ r = 1 ∨ r = 2 ∨ r = 3 ∨ r = 4 ∨ r = 5 ∨ r = 6 := by omega
            rcases this with rfl | rfl | rfl | rfl | rfl | rfl | rfl <;> rfl
          have HUq := Lib.hid hAL
          have HXq := Lib.hid (HX.out.upd ((Upd.refl [] wo).alloc (.cells #[.int .i64 1, .int .i64 2, .int .i64 8, .int .i64 6, .int .i64 33, .int .i64 31, .int .i64 7] 3)))
          have HEO := Lib.hid (opT_easy r hr7)
          generalize opT r = oq at hlit HEO
          clear hbd hi0 hi1 hi2 hi3 hb1 hb2 hAL
          go_wp2_with (at_builtin; refine stop_here ?_)
          refine Hid.mk ?_
          have hzq : (wo.alloc (.cells #[.int .i64 1, .int .i64 2, .int .i64 8, .int .i64 6, .int .i64 33, .int .i64 31, .int .i64 7] 3)).heap.size = wo.heap.size + 1 := by simp
          have hrow : ((wo.alloc (.cells #[.int .i64 1, .int .i64 2, .int .i64 8, .int .i64 6, .int .i64 33, .int .i64 31, .int .i64 7] 3)).alloc (.cells (xcells [⟨oq, 0, 0, 0⟩]).toArray 42)).ownsRow w.heap.size 42 4 (.slice yp (2 * i + 1 + j) yc) (2 * i + 1 + j) (xcells (pairC i ++ ⟨33, 0, 0, 0⟩ :: t)) := by
            have h := HXq.out.upd ((Upd.refl [] (wo.alloc (.cells #[.int .i64 1, .int .i64 2, .int .i64 8, .int .i64 6, .int .i64 33, .int .i64 31, .int .i64 7] 3))).alloc (.cells (xcells [⟨oq, 0, 0, 0⟩]).toArray 42))
            unfold OwnX at h
            rwa [HLJ.out] at h
          have hsz := HUq.out.size
          refine (wpList_append_src rfl _ _ 35 rfl w.heap.size 42 i0 _ 4 32 Tryd.underlying35 HI.out HZ0.out HZ1.out HZ2.out rfl (by decide) _ _ _ rfl hrow _ 1 (xcells [⟨oq, 0, 0, 0⟩]) rfl (.inr ⟨_, _, rfl, fun j u hu => by
            rw [Addr.add_lit, Nat.zero_add, ← hzq, cell_of (heap_alloc_new (wo.alloc (.cells #[.int .i64 1, .int .i64 2, .int .i64 8, .int .i64 6, .int .i64 33, .int .i64 31, .int .i64 7] 3)) _)]
            show ((xcells [⟨oq, 0, 0, 0⟩]).toArray)[j]? = some u
            rw [List.getElem?_toArray]
            exact hu⟩) rfl (xcells_one _) (by unfold maxLen; omega) (by omega) (by simp; omega) ?_)
          intro v' w7 hown hgr _
          obtain ⟨hP, hW, hB⟩ := HXq.out.push (ys := [⟨oq, 0, 0, 0⟩]) (by rw [HLJ.out]; rfl) hown hgr
          have hP : OwnX w7 w.heap.size v' (pairC i ++ ⟨33, 0, 0, 0⟩ :: (t ++ [⟨oq, 0, 0, 0⟩])) := by rw [List.append_assoc] at hP; exact hP
          have HP := Lib.hid hP
          have HU7 := Lib.hid (HUq.out.trans' hW (fun q hq hl => by have := (hB q hq).1; omega))
          obtain ⟨yp', yc', hv'⟩ := hP.shape
          subst hv'
          clear hzq hP hW hB hown hgr hrow hsz
          have HT2 : Hid ((t ++ [(⟨oq, 0, 0, 0⟩ : Ins)]).all easy = true) := by show _ = _; rw [List.all_append, HTE.out, List.all_cons, HEO.out]; rfl
          have HL2 : Hid ((pairC i ++ (⟨33, 0, 0, 0⟩ : Ins) :: (t ++ [(⟨oq, 0, 0, 0⟩ : Ins)])).length = 2 * i + 1 + (j + 1)) := by show _ = _; rw [List.length_append, HLI.out, List.length_cons, List.length_append, HTJ.out]; simp; omega
          rw [HL2.out] at HP ⊢
          clear HL2 hlit hy0 hy1 f1 hr HXq HUq
          go_wp2_with fail
          go_roundw
          case rel => exact ⟨t ++ [(⟨oq, 0, 0, 0⟩ : Ins)], j + 1, by rw [List.length_append, HTJ.out]; rfl, by omega, by go_num, HT2.out, HP.out, HU7.out⟩
          case measure => simp [intOf]; omega
        · have hcd := HX.out.code (easy_small (l := pairC i ++ ⟨33, 0, 0, 0⟩ :: t) (by rw [List.all_append, pair_easy, List.all_cons, HTE.out]; decide))
          have hok : (withM (plainM (pairC i ++ ⟨33, 0, 0, 0⟩ :: t))).Ok := easy_ok (by rw [List.all_append, pair_easy, List.all_cons, HTE.out]; decide) (by rw [HLJ.out]; omega) (by rw [HLJ.out]; omega)
          have HOK := Lib.hid hok
          obtain ⟨s, hs, hmo⟩ := fall_ok i t (withM (plainM (pairC i ++ ⟨33, 0, 0, 0⟩ :: t)))
          have HSS := Lib.hid hs
          have HMO := Lib.hid hmo
          clear hs hmo hok
          have hwth := with_any (plainM (pairC i ++ ⟨33, 0, 0, 0⟩ :: t)) _ wo hcd ⟨Nat.zero_le _, Nat.zero_le _, Nat.zero_le _⟩
          generalize hmm : plainM (pairC i ++ ⟨33, 0, 0, 0⟩ :: t) = mm at hwth HOK HSS
          rw [show mm.params = ⟨#[]⟩ by rw [← hmm]; rfl, show mm.locals = ⟨#[]⟩ by rw [← hmm]; rfl, show mm.ret = ⟨#[]⟩ by rw [← hmm]; rfl] at hwth
          have HWITH := Lib.hid hwth
          clear hcd hwth HX hmm
          go_wp2_with fail
          refine HWITH.out.mono ?_
          rintro e w14 ⟨cv, mv, rfl, hc8, hm8, hu8⟩
          have HU14 := Lib.hid (HU.out.trans hu8)
          have HOF := Lib.hid (ofV_any (withM mm) cv mv E w14 (HS.out.upd HU14.out) hc8 hm8)
          clear hc8 hm8 hu8 HWITH
          go_wp2_with fail
          refine HOF.out.mono ?_
          rintro e w15 ⟨v9, rfl, hend⟩
          obtain ⟨ib, ss, hl, hlk, rfl, hinfo, hib, hu9⟩ := hend.good HOK.out (by
            intro q hq
            have : q = 0 ∨ q = 1 := by have h : (withM mm).ms.length = 2 := rfl; omega
            rcases this with rfl | rfl
            · exact ret_first _
            · exact ⟨_, HSS.out⟩)
          have hs1 : ss.getD 1 default = s := by
            have h := hlk 1 (by show 1 < 2; omega)
            have h1 : (withM mm).ms.getD 1 default = mm := rfl
            rw [h1, HSS.out] at h
            injection h with h
            exact h.symm
          have hms := most_in ib (withM mm) ss 0 1 w15 hinfo hl (by show 1 < 2; omega) (by omega) (by omega)
          rw [hs1, HMO.out] at hms
          have HMS := Lib.hid hms
          have HIB := Lib.hid (Nat.le_trans HU14.out.size hib)
          have HU15 := Lib.hid (HU14.out.trans hu9)
          have hq : ((min 1 i : Nat) : Int) = min 1 (i : Int) := by omega
          clear hend hu9 hinfo hib hlk hl hs1 hms HSS HMO HOK HOF
          go_wp2_with fail
          refine HMS.out.mono ?_
          rintro e w16 ⟨rfl, hi16, hu16⟩
          have HU16 := Lib.hid (HU15.out.trans' hu16 (fun k hk hl => by simp at hk; have := HIB.out; omega))
          clear hi16 hu16
          go_wp2_with fail
          go_ret
          exact ⟨rfl, HU16.out⟩
end Go.Proofs.YtjndigfmemdmjaaDoor
