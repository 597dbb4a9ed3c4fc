/- HeapPlays: may an object be? -/
import Derived.Test.YtbcoejmiihgfoaaDoorHpF
/-! HeapPlays: may an object be? -/
namespace Go.Proofs.YtbcoejmiihgfoaaDoor
open Go.RowKit

/-- May an object of that class, with so many values, be at all? -/
def MayC (cs : List ByteArray) (c n : Int) : Prop := -2 ≤ c ∧ c < cs.length ∧ (0 ≤ c ∨ 0 ≤ n ∧ n ≤ 50)
instance (cs : List ByteArray) (c n : Int) : Decidable (MayC cs c n) := by unfold MayC; exact inferInstance
theorem mayC_words {S : Hp} {c n : Int} (h : MayC S.cs c n) : S.words c n = 2 + wantN S.cs c n := by
 obtain ⟨h1, h2, h3⟩ := h
 unfold Hp.words wantN
 rw [if_neg (by omega)]
 split <;> rfl
theorem mayC_no {S : Hp} {c n : Int} (h : ¬ MayC S.cs c n) (k : Nat) : S.room k c n = false ∧ S.layR k c n = 0 ∧ S.layK k c n = S := by
 have hw : S.words c n = 0 := by
  unfold Hp.words
  rw [if_pos]
  unfold MayC at h
  omega
 have hr : S.room k c n = false := by unfold Hp.room; rw [hw]; exact decide_eq_false (by omega)
 exact ⟨hr, by unfold Hp.layR; rw [hr]; rfl, by unfold Hp.layK; rw [hr]; rfl⟩
theorem mayC_want {S : Hp} (hS : S.Ok) {c n : Int} (h : MayC S.cs c n) : 0 ≤ wantN S.cs c n ∧ wantN S.cs c n ≤ 50 := by
 obtain ⟨h1, h2, h3⟩ := h
 unfold wantN
 split
 ·rename_i h0
  have hl : c.toNat < S.cs.length := by omega
  have : (S.cs.getD c.toNat ByteArray.empty).size ≤ 10 := by
   rw [List.getD_eq_getElem?_getD, List.getElem?_eq_getElem hl]
   exact hS.small _ (List.getElem_mem hl)
  omega
 ·omega
theorem mayC_room {S : Hp} (hS : S.Ok) {c n : Int} (h : MayC S.cs c n) (k : Nat) (hk : k < 3) : S.room k c n = decide (2 + wantN S.cs c n ≤ (S.sp k).to - (S.sp k).top) ∧ (S.room k c n = true → Fits S k c (2 + wantN S.cs c n) ∧ S.layR k c n = (S.sp k).top + 1 ∧ S.layK k c n = S.laid k c (2 + wantN S.cs c n)) ∧ (S.room k c n = false → S.layR k c n = 0 ∧ S.layK k c n = S) := by
 have hw := mayC_words h
 have hb := mayC_want hS h
 refine ⟨?_, fun hr => ?_, fun hr => ?_⟩
 ·unfold Hp.room
  rw [hw, decide_eq_decide]
  omega
 ·have hr2 := hr
  unfold Hp.room at hr2
  rw [decide_eq_true_eq] at hr2
  have f := words_fits hS hk hr2.1 hr2.2
  rw [hw] at f
  refine ⟨f, ?_, ?_⟩
  ·unfold Hp.layR; rw [if_pos hr]
  ·unfold Hp.layK; rw [if_pos hr, hw]
 ·exact ⟨by unfold Hp.layR; rw [hr]; rfl, by unfold Hp.layK; rw [hr]; rfl⟩

theorem words3_may {cv mv : Value} {b o : Nat} {c n : Int} {cs : List ByteArray} {w : World} (h : ClsAt w cv b o cs) (hm : MayC cs c n) (hcs : cs.length ≤ 1000) (hz : ∀ c ∈ cs, c.size ≤ 10) :
  Calls Tryd.prog 10 #[.agg #[cv, mv], .int .i64 c, .int .i64 n] w fun e w' => e = .returned (.int .i64 (2 + wantN cs c n)) ∧ Upd [] w w' := by
 obtain ⟨h1, h2, h3⟩ := hm
 unfold wantN
 by_cases h0 : 0 ≤ c
 ·rw [if_pos h0]
  obtain ⟨k, rfl⟩ := Int.eq_ofNat_of_zero_le h0
  have hk : k < cs.length := by omega
  exact words3_class cv mv b o k n cs w h hk hcs (by
   have := hz (cs.getD k ByteArray.empty) (by rw [List.getD_eq_getElem?_getD, List.getElem?_eq_getElem hk]; exact List.getElem_mem hk)
   omega)
 ·rw [if_neg h0]
  exact words3_array cv mv c n w (by omega) (by omega) (by omega)

set_option maxRecDepth 1000000 in
set_option maxHeartbeats 16000000 in
theorem hreg48 {w0 : World} {ub pb nl lc i : Nat} {la : Option Addr} {L : HL} {mv : Value} {p : Prg} {cp : Option Addr} {cc : Nat} {lim nur half ask at_ : Int} {ov rv yv tv : Value} {wx : World} {xd : Nat} {which kd da dby dn dv : Int} {f : Nat → Value} {J K' : Act → World → Prop} {Q' : Exit → Act → World → Prop}
  (hC : HpC w0 p cp cc mv pb lim nur half) (hu : Upd [] w0 wx) (hx : wx.heap[xd]? = some (.cells #[.int .i64 kd, .int .i64 da, .int .i64 dby, .int .i64 dn, .int .i64 dv] 45))
  (h25 : f 25 = .pointer (some ⟨xd, 0, none⟩)) (h26 : f 26 = .int .i64 which) (h27 : f 27 = .int .i64 da)
  (hJ : ∀ a' w', (w' = wx ∧ ∃ f, a' = hpF lim nur la nl lc ask at_ pb L.hb ub half ov rv yv tv (.int .i64 i) f ∧ (f 25 = .pointer (some ⟨xd, 0, none⟩) ∧ f 26 = .int .i64 which ∧ f 27 = .int .i64 da ∧ f 28 = .bool (decide (MayC p.cs da dn)))) → J a' w') (hK : ∀ a' w', Go.Met J a' w' → K' a' w') :
  (hpR 48).wp Tryd.prog (Exit.then K' Q') (hpF lim nur la nl lc ask at_ pb L.hb ub half ov rv yv tv (.int .i64 i) f) wx := by
 have x3 : wx.cell? ⟨xd, 3, none⟩ = some (.int .i64 dn) := by rw [cell_of hx]; rfl
 obtain ⟨c0, c1⟩ := cls_slice hC hu
 have HJ := Lib.hid hJ
 clear hC hu hx hJ c1
 unfold hpF
 rw [h25, h26, h27]
 conv => arg 2; whnf
 clear h25 h26 h27
 by_cases e1 : -2 ≤ da
 ·have g1 : decide (-2 ≤ da) = true := decide_eq_true e1
  by_cases e2 : da < (p.cs.length : Int)
  ·have g2 : decide (da < (p.cs.length : Int)) = true := decide_eq_true e2
   by_cases e3 : 0 ≤ da
   ·have g3 : decide (0 ≤ da) = true := decide_eq_true e3
    have hm : decide (MayC p.cs da dn) = true := decide_eq_true ⟨e1, e2, .inl e3⟩
    rw [hm] at HJ
    clear hm e1 e2 e3
    as_aux_lemma =>
     go_wp2_with fail
     exact Go.Met.intro (HJ.out _ _ ⟨rfl, hpF_eqP _ (by kernel_rfl) ⟨rfl, rfl, rfl, rfl⟩⟩)
   ·have g3 : decide (0 ≤ da) = false := decide_eq_false e3
    by_cases e4 : 0 ≤ dn
    ·have g4 : decide (0 ≤ dn) = true := decide_eq_true e4
     have hm : decide (MayC p.cs da dn) = decide (dn ≤ 50) := by
      rw [decide_eq_decide]; unfold MayC; omega
     rw [hm] at HJ
     clear hm e1 e2 e3 e4
     as_aux_lemma =>
      go_wp2_with fail
      exact Go.Met.intro (HJ.out _ _ ⟨rfl, hpF_eqP _ (by kernel_rfl) ⟨rfl, rfl, rfl, rfl⟩⟩)
    ·have g4 : decide (0 ≤ dn) = false := decide_eq_false e4
     have hm : decide (MayC p.cs da dn) = false := decide_eq_false (by unfold MayC; omega)
     rw [hm] at HJ
     clear hm e1 e2 e3 e4
     as_aux_lemma =>
      go_wp2_with fail
      exact Go.Met.intro (HJ.out _ _ ⟨rfl, hpF_eqP _ (by kernel_rfl) ⟨rfl, rfl, rfl, rfl⟩⟩)
  ·have g2 : decide (da < (p.cs.length : Int)) = false := decide_eq_false e2
   have hm : decide (MayC p.cs da dn) = false := decide_eq_false (by unfold MayC; omega)
   rw [hm] at HJ
   clear hm e1 e2
   as_aux_lemma =>
    go_wp2_with fail
    exact Go.Met.intro (HJ.out _ _ ⟨rfl, hpF_eqP _ (by kernel_rfl) ⟨rfl, rfl, rfl, rfl⟩⟩)
 ·have g1 : decide (-2 ≤ da) = false := decide_eq_false e1
  have hm : decide (MayC p.cs da dn) = false := decide_eq_false (by unfold MayC; omega)
  rw [hm] at HJ
  clear hm e1
  as_aux_lemma =>
   go_wp2_with fail
   exact Go.Met.intro (HJ.out _ _ ⟨rfl, hpF_eqP _ (by kernel_rfl) ⟨rfl, rfl, rfl, rfl⟩⟩)
end Go.Proofs.YtbcoejmiihgfoaaDoor
