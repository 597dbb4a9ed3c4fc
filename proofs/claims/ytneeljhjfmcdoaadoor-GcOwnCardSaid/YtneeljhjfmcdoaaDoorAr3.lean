/- Walks of the functions of package arena: Copy, Clear. -/
import Derived.Test.YtneeljhjfmcdoaaDoorAr2
namespace Go.Proofs.YtneeljhjfmcdoaaDoor
open Go.RowKit

set_option maxHeartbeats 400000 in
theorem copy_no (b g : Nat) (xs : List Int) (to fr n : Int) (w : World) (h : ArAt w b g xs) (hno : n < 0 ∨ to < 0 ∨ xs.length < to + n ∨ fr < 0 ∨ xs.length < fr + n) 
    (hto : -9223372036854775808 ≤ to) (hto' : to ≤ 9223372036854775807) :
    Calls Tryd.prog 87 #[.pointer (some ⟨b, 0, none⟩), .int .i64 to, .int .i64 fr, .int .i64 n] w fun e w' => e = .returned (.bool false) ∧ w = w' := by
  have hl := h.2.2
  have H := Lib.hid h
  clear h
  by_cases c1 : n < 0
  · go_enter Tryd.func87, Tryd.ntmps87
    go_wp2_with fail
    go_ret
    exact ⟨rfl, rfl⟩
  · by_cases c2 : to < 0 ∨ xs.length < to + n
    · go_enter Tryd.func87, Tryd.ntmps87
      go_wp2_with fail
      refine (there_no _ _ _ _ _ _ H.out (by omega)).mono ?_
      rintro e w' ⟨rfl, rfl⟩
      go_wp2_with fail
      go_ret
      exact ⟨rfl, rfl⟩
    · go_enter Tryd.func87, Tryd.ntmps87
      go_wp2_with fail
      refine (there_yes _ _ _ _ _ _ H.out (by omega) (by omega) (by omega)).mono ?_
      rintro e w' ⟨rfl, rfl⟩
      go_wp2_with fail
      refine (there_no _ _ _ _ _ _ H.out (by omega)).mono ?_
      rintro e w' ⟨rfl, rfl⟩
      go_wp2_with fail
      go_ret
      exact ⟨rfl, rfl⟩

/-- Where a cut of a whole row begins. -/
def cutAt (g n t : Nat) : Option Addr := some ⟨g, if n = t then 0 else t, none⟩

theorem run_cut (w : World) (g n t k : Nat) (h : t + k ≤ n) :
    (Instr.slice 70 (.slice (some ⟨g, 0, none⟩) n n) (some (.int .i64 (t : Int))) (some (.int .i64 ((t : Int) + (k : Int)))) none).run Tryd.prog w = .ok (.slice (cutAt g n t) k (n - t)) w := by
  have hsz : (sizeOf 2).run Tryd.prog w = .ok 1 w := by kernel_rfl
  have he : Tryd.prog.elem 70 = 2 := by kernel_rfl
  rw [run_slice_lh w 70 _ _ _ (by rw [he]; exact Tryd.underlying70) .i64 .i64 (t : Int) ((t : Int) + (k : Int)) (by omega) (by omega) (by omega), he, hsz]
  have e1 : ((t : Int) + (k : Int)).toNat - (t : Int).toNat = k := by omega
  simp only [Result.andThen, sliced, Int.toNat_natCast, Nat.mul_one, cutAt] at e1 ⊢
  rw [e1]
  by_cases c : n = t
  · simp [c]
  · simp [c, Addr.add]
    intro h; exact h.symm

set_option maxRecDepth 100000 in
set_option maxHeartbeats 800000 in
theorem copy_yes (b g : Nat) (xs : List Int) (to fr n : Int) (w : World) (h : ArAt w b g xs) (h0 : 0 ≤ n) (h1 : 0 ≤ to) (h2 : to + n ≤ xs.length) (h3 : 0 ≤ fr) (h4 : fr + n ≤ xs.length) :
    Calls Tryd.prog 87 #[.pointer (some ⟨b, 0, none⟩), .int .i64 to, .int .i64 fr, .int .i64 n] w fun e w' => e = .returned (.bool true) ∧ ArAt w' b g (splice xs to.toNat ((xs.drop fr.toNat).take n.toNat)) ∧ Upd [g] w w' := by
  obtain ⟨k, rfl⟩ := Int.eq_ofNat_of_zero_le h0
  obtain ⟨t, rfl⟩ := Int.eq_ofNat_of_zero_le h1
  obtain ⟨f, rfl⟩ := Int.eq_ofNat_of_zero_le h3
  have hb := h.cell
  have hl := h.2.2
  have H := Lib.hid h
  clear h
  have HC1 := Lib.hid (fun w => run_cut w g xs.length t k (by omega))
  have HC2 := Lib.hid (fun w => run_cut w g xs.length f k (by omega))
  have HW1 := Lib.hid (show IntKind.i64.wrap ((t : Int) + k) = t + k from IntWalk.i64_in _ (by omega))
  have HW2 := Lib.hid (show IntKind.i64.wrap ((f : Int) + k) = f + k from IntWalk.i64_in _ (by omega))
  go_enter Tryd.func87, Tryd.ntmps87
  go_wp2_with fail
  refine (there_yes _ _ _ _ _ _ H.out (by omega) (by omega) (by omega)).mono ?_
  rintro e w' ⟨rfl, rfl⟩
  go_wp2_with fail
  refine (there_yes _ _ _ _ _ _ H.out (by omega) (by omega) (by omega)).mono ?_
  rintro e w' ⟨rfl, rfl⟩
  go_wp2_with fail
  have hc1 := HC1.out
  have hc2 := HC2.out
  have hw1 := HW1.out
  have hw2 := HW2.out
  go_still_tail 18, (by kernel_rfl)
  clear hc1 hc2 hw1 hw2
  change wpList _ _ _ _ _ w.drew
  generalize hw2 : w.drew = w2
  have HH : Hid (ArAt w2 b g xs) := by rw [← hw2]; exact H.out
  have HU : Hid (Upd [g] w w2) := by rw [← hw2]; exact (Upd.refl _ _).drew
  clear hw2 hb
  have hg := HH.out.2.1
  have HG := Lib.hid hg
  clear hg
  refine wpList_copy_upd rfl (.tmp 33) (.tmp 42) 70 70 rfl 2 Tryd.underlying70 (by kernel_rfl) _ _ _ _ _ _ rfl rfl g t (xs.map (Value.int .i64)) 2 HG.out (((xs.drop f).take k).map (Value.int .i64)) ?c1 ?c2 ?c3 ?c4 ?_
  case c1 => simp; omega
  case c2 =>
    intro hp
    have hp' : 0 < k := by simp at hp; omega
    refine ⟨by unfold cutAt; rw [if_neg (by omega)], ⟨g, f, none⟩, by unfold cutAt; rw [if_neg (by omega)], ?_⟩
    intro j v hv
    rw [Addr.add_lit, cell_of HG.out]
    rw [List.getElem?_map, List.getElem?_take] at hv
    split at hv
    · rw [List.getElem?_drop] at hv
      simpa [icells] using hv
    · simp at hv
  case c3 => simp; omega
  case c4 =>
    intro v hv
    obtain ⟨x, _, rfl⟩ := List.mem_map.1 hv
    rfl
  intro w3 hg3 hu3 _
  have H3 : Hid (ArAt w3 b g (splice xs t ((xs.drop f).take k)) ∧ Upd [g] w w3) := by
    have h3 := hg3.out
    rw [splice_map] at h3
    have hlen : (splice xs t ((xs.drop f).take k)).length = xs.length := length_splice _ _ _ (by simp; omega)
    refine ⟨⟨?_, h3, by rw [hlen]; exact hl⟩, HU.out.trans hu3.out⟩
    rw [hlen]
    exact hu3.out.heap HH.out.1 (by simp; exact HH.out.ne)
  clear hg3 hu3
  go_wp2
  go_ret
  exact ⟨rfl, by simpa using H3.out⟩

/-- The words with 0 from lo up to hi. -/
def clearL (xs : List Int) (fr to : Int) : List Int :=
  splice xs fr.toNat (List.replicate ((min to xs.length) - (max fr 0)).toNat 0)

theorem run_cut2 (w : World) (g n : Nat) (lo hi : Int) (h0 : 0 ≤ lo) (h1 : lo < hi) (h2 : hi ≤ n) :
    (Instr.slice 70 (.slice (some ⟨g, 0, none⟩) n n) (some (.int .i64 lo)) (some (.int .i64 hi)) none).run Tryd.prog w = .ok (.slice (some ⟨g, lo.toNat, none⟩) (hi - lo).toNat (n - lo.toNat)) w := by
  have hsz : (sizeOf 2).run Tryd.prog w = .ok 1 w := by kernel_rfl
  have he : Tryd.prog.elem 70 = 2 := by kernel_rfl
  rw [run_slice_lh w 70 _ _ _ (by rw [he]; exact Tryd.underlying70) .i64 .i64 lo hi (by omega) (by omega) (by omega), he, hsz]
  have e1 : hi.toNat - lo.toNat = (hi - lo).toNat := by omega
  simp only [Result.andThen, sliced, Nat.mul_one]
  rw [if_neg (by omega), e1]
  simp [Addr.add]
  omega

theorem Tryd.zero2 (w : World) : (zeroValue 2).run Tryd.prog w = .ok (.int .i64 0) w := by kernel_rfl

set_option maxHeartbeats 400000 in
theorem clear_any (b g : Nat) (xs : List Int) (fr to : Int) (w : World) (h : ArAt w b g xs) :
    Calls Tryd.prog 69 #[.pointer (some ⟨b, 0, none⟩), .int .i64 fr, .int .i64 to] w fun e w' => e = .returned (.tuple #[]) ∧ ArAt w' b g (clearL xs fr to) ∧ Upd [g] w w' := by
  have hb := h.cell
  have hl := h.2.2
  have H := Lib.hid h
  clear h
  obtain ⟨lo, hlo⟩ : ∃ lo : Int, lo = if fr < 0 then 0 else fr := ⟨_, rfl⟩
  obtain ⟨hi, hhi⟩ : ∃ hi : Int, hi = if (xs.length : Int) < to then (xs.length : Int) else to := ⟨_, rfl⟩
  have b1 : 0 ≤ lo := by omega
  have b2 : hi ≤ xs.length := by omega
  have HL := Lib.hid hlo
  have HH := Lib.hid hhi
  clear hlo hhi
  go_enter Tryd.func69, Tryd.ntmps69
  go_wp2_with fail
  go_region
  rw [← HL.out, ← HH.out]
  by_cases hlt : lo < hi
  · have hcut := fun w => run_cut2 w g xs.length lo hi b1 hlt b2
    have hcl : ∀ ty, (Builtin.clear_ #[70] ty #[.slice (some ⟨g, lo.toNat, none⟩) (hi - lo).toNat (xs.length - lo.toNat)]).run Tryd.prog w.drew = .ok (.tuple #[]) (w.drew.setRow g (splice (xs.map (Value.int .i64)) lo.toNat (List.replicate (hi - lo).toNat (.int .i64 0))).toArray) :=
      fun ty => run_clear_row w.drew 70 2 ty (.int .i64 0) Tryd.underlying70 Tryd.zero2 rfl rfl g lo.toNat _ _ (by omega) _ 2 H.out.2.1 (by simp; omega)
    go_wp2_with (simp only [hcl])
    go_end0
    have e : clearL xs fr to = splice xs lo.toNat (List.replicate (hi - lo).toNat 0) := by
      unfold clearL
      have e1 : fr.toNat = lo.toNat := by have := HL.out; omega
      have e2 : ((min to (xs.length : Int)) - (max fr 0)).toNat = (hi - lo).toNat := by have := HL.out; have := HH.out; omega
      rw [e1, e2]
    have hlen : (clearL xs fr to).length = xs.length := by rw [e]; exact length_splice _ _ _ (by simp; omega)
    refine ⟨rfl, ⟨?_, ?_, by rw [hlen]; exact hl⟩, ((Upd.refl _ _).drew).setRow (by simp) _⟩
    · rw [setRow_other _ _ _ _ H.out.ne, hlen]; exact H.out.1
    · rw [e]
      have h1 := setRow_heap w.drew g _ (splice (xs.map (Value.int .i64)) lo.toNat (List.replicate (hi - lo).toNat (.int .i64 0))).toArray _ _ H.out.2.1
      have h2 : (List.replicate (hi - lo).toNat (Value.int .i64 0)) = (List.replicate (hi - lo).toNat (0 : Int)).map (Value.int .i64) := by simp
      rw [h2, splice_map] at h1
      rw [h2, splice_map]
      exact h1
  · go_wp2
    go_end0
    refine ⟨rfl, ?_, (Upd.refl _ _).drew⟩
    have e : clearL xs fr to = xs := by
      unfold clearL
      have : ((min to (xs.length : Int)) - (max fr 0)).toNat = 0 := by have := HL.out; have := HH.out; omega
      rw [this]; simp [splice]
    rw [e]; exact H.out

end Go.Proofs.YtneeljhjfmcdoaaDoor
