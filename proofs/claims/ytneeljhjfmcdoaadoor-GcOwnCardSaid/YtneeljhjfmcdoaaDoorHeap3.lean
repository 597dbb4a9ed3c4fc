/- The heap: an object is laid in a space. -/
import Derived.Test.YtneeljhjfmcdoaaDoorHeap2
namespace Go.Proofs.YtneeljhjfmcdoaaDoor
open Go.RowKit

def Hp.setSp (S : Hp) (k : Nat) (s : Spc) : Hp :=
  match k with
  | 0 => { S with y := s }
  | 1 => { S with h0 := s }
  | _ => { S with h1 := s }

/-- The heap behind an object of class c and wd words that is laid in space k. -/
def Hp.laid (S : Hp) (k : Nat) (c wd : Int) : Hp :=
  { S.setSp k { S.sp k with top := (S.sp k).top + wd } with A := (clearL S.A (S.sp k).top ((S.sp k).top + wd)).set (S.sp k).top.toNat (packV c (wd - 2)), bg := badd S.bg (S.sp k).top.toNat }

section
variable (S : Hp) (k : Nat) (c wd : Int)
@[simp] theorem laid_cs : (S.laid k c wd).cs = S.cs := by unfold Hp.laid Hp.setSp; match k with | 0 => rfl | 1 => rfl | _ + 2 => rfl
@[simp] theorem laid_mr : (S.laid k c wd).mr = S.mr := by unfold Hp.laid Hp.setSp; match k with | 0 => rfl | 1 => rfl | _ + 2 => rfl
@[simp] theorem laid_now : (S.laid k c wd).now = S.now := by unfold Hp.laid Hp.setSp; match k with | 0 => rfl | 1 => rfl | _ + 2 => rfl
theorem laid_A : (S.laid k c wd).A = (clearL S.A (S.sp k).top ((S.sp k).top + wd)).set (S.sp k).top.toNat (packV c (wd - 2)) := rfl
theorem laid_bg : (S.laid k c wd).bg = badd S.bg (S.sp k).top.toNat := rfl
@[simp] theorem laid_len : (S.laid k c wd).A.length = S.A.length := by rw [laid_A, List.length_set, clearL_len]
end

/-- What is asked of an object that is laid. -/
structure Fits (S : Hp) (k : Nat) (c wd : Int) : Prop where
  k3 : k < 3
  c1 : -2 ≤ c
  c2 : c < S.cs.length
  w1 : 2 ≤ wd
  w2 : wd ≤ 52
  fld : 0 ≤ c → wd - 2 = (S.cs.getD c.toNat ByteArray.empty).size
  room : wd ≤ (S.sp k).to - (S.sp k).top

theorem Hp.Ok.sp0 {S : Hp} (h : S.Ok) (k : Nat) : 0 ≤ (S.sp k).fr ∧ (S.sp k).fr ≤ (S.sp k).top ∧ (S.sp k).top ≤ (S.sp k).to ∧ (S.sp k).to ≤ S.A.length := by
  have := h.y0; have := h.y1; have := h.y2; have := h.a0; have := h.a1; have := h.a2; have := h.b0; have := h.b1; have := h.b2; have := h.b3
  match k with
  | 0 => simp only [Hp.sp]; omega
  | 1 => simp only [Hp.sp]; omega
  | _ + 2 => simp only [Hp.sp]; omega

/-- Spaces lie apart. -/
theorem Hp.Ok.apart {S : Hp} (h : S.Ok) {j k : Nat} (hj : j < 3) (hk : k < 3) (hne : j ≠ k) : (S.sp j).to ≤ (S.sp k).fr ∨ (S.sp k).to ≤ (S.sp j).fr := by
  have := h.y0; have := h.y1; have := h.y2; have := h.a0; have := h.a1; have := h.a2; have := h.b0; have := h.b1; have := h.b2; have := h.b3
  have hj' : j = 0 ∨ j = 1 ∨ j = 2 := by omega
  have hk' : k = 0 ∨ k = 1 ∨ k = 2 := by omega
  rcases hj' with rfl | rfl | rfl <;> rcases hk' with rfl | rfl | rfl <;> simp only [Hp.sp] <;> first | omega | exact absurd rfl hne

theorem laid_get {S : Hp} (hS : S.Ok) {k : Nat} {c wd : Int} (f : Fits S k c wd) (i : Nat) :
    (S.laid k c wd).A.getD i 0 = if (i : Int) = (S.sp k).top then packV c (wd - 2) else if (S.sp k).top ≤ (i : Int) ∧ (i : Int) < (S.sp k).top + wd then 0 else S.A.getD i 0 := by
  obtain ⟨s0, s1, s2, s3⟩ := hS.sp0 k
  have hr := f.room
  have hw := f.w1
  obtain ⟨t, ht⟩ := Int.eq_ofNat_of_zero_le (show 0 ≤ (S.sp k).top by omega)
  obtain ⟨wn, rfl⟩ := Int.eq_ofNat_of_zero_le (show 0 ≤ wd by omega)
  have e1 : clearL S.A (S.sp k).top ((S.sp k).top + (wn : Int)) = clearL S.A ((t : Nat) : Int) ((t + wn : Nat) : Int) := by rw [ht]; congr 1
  rw [laid_A, e1, show (S.sp k).top.toNat = t by omega, getD_set _ _ _ _ (by rw [clearL_len]; omega), getD_clear S.A t (t + wn) i (by omega) (by omega)]
  by_cases h : i = t
  · rw [if_pos h, if_pos (show (i : Int) = (S.sp k).top by omega)]
  · rw [if_neg h, if_neg (show ¬ (i : Int) = (S.sp k).top by omega)]
    by_cases h2 : t ≤ i ∧ i < t + wn
    · rw [if_pos h2, if_pos (show (S.sp k).top ≤ (i : Int) ∧ (i : Int) < (S.sp k).top + (wn : Int) by omega)]
    · rw [if_neg h2, if_neg (show ¬ ((S.sp k).top ≤ (i : Int) ∧ (i : Int) < (S.sp k).top + (wn : Int)) by omega)]

/-- The words of an object that is there lie where nothing is laid. -/
theorem laid_old {S : Hp} (hS : S.Ok) {k : Nat} {c wd : Int} (f : Fits S k c wd) {a : Nat} (ha : bhas S.bg a = true) (i : Nat) (hi : a ≤ i) (hi2 : (i : Int) < (a : Int) + 2 + unN (S.A.getD a 0)) :
    (S.laid k c wd).A.getD i 0 = S.A.getD i 0 := by
  obtain ⟨j, hj, u1, u2⟩ := hS.used a ha
  obtain ⟨s0, s1, s2, s3⟩ := hS.sp0 j
  obtain ⟨t0, t1, t2, t3⟩ := hS.sp0 k
  have hr := f.room
  have hw := f.w1
  rw [laid_get hS f]
  by_cases hjk : j = k
  · subst hjk
    rw [if_neg (by omega), if_neg (by omega)]
  · have := hS.apart hj f.k3 hjk
    rw [if_neg (by omega), if_neg (by omega)]

theorem laid_has {S : Hp} (hS : S.Ok) {k : Nat} {c wd : Int} (f : Fits S k c wd) (hb : S.bg.length = (S.A.length + 63) / 64) (a : Nat) :
    bhas (S.laid k c wd).bg a = (bhas S.bg a || decide ((S.sp k).top.toNat = a)) := by
  obtain ⟨t0, t1, t2, t3⟩ := hS.sp0 k
  have hr := f.room
  have hw := f.w1
  rw [laid_bg, badd_get _ _ _ (by omega)]

theorem laid_new {S : Hp} (hS : S.Ok) {k : Nat} {c wd : Int} (f : Fits S k c wd) : bhas S.bg (S.sp k).top.toNat = false := by
  by_cases h : bhas S.bg (S.sp k).top.toNat = true
  · exfalso
    obtain ⟨j, hj, u1, u2⟩ := hS.used _ h
    obtain ⟨s0, s1, s2, s3⟩ := hS.sp0 j
    obtain ⟨t0, t1, t2, t3⟩ := hS.sp0 k
    have hr := f.room
    have hw := f.w1
    have hn := unN_nonneg (S.A.getD (S.sp k).top.toNat 0)
    by_cases hjk : j = k
    · subst hjk; omega
    · have := hS.apart hj f.k3 hjk
      omega
  · simpa using h

theorem setSp_sp (S : Hp) (k j : Nat) (s : Spc) (hk : k < 3) (hj : j < 3) : (S.setSp k s).sp j = if j = k then s else S.sp j := by
  have hj' : j = 0 ∨ j = 1 ∨ j = 2 := by omega
  have hk' : k = 0 ∨ k = 1 ∨ k = 2 := by omega
  rcases hj' with rfl | rfl | rfl <;> rcases hk' with rfl | rfl | rfl <;> rfl

theorem laid_sp (S : Hp) (k j : Nat) (c wd : Int) (hk : k < 3) (hj : j < 3) : (S.laid k c wd).sp j = if j = k then { S.sp k with top := (S.sp k).top + wd } else S.sp j := by
  have := setSp_sp S k j { S.sp k with top := (S.sp k).top + wd } hk hj
  have hj' : j = 0 ∨ j = 1 ∨ j = 2 := by omega
  rcases hj' with rfl | rfl | rfl <;> exact this

theorem laid_ok {S : Hp} (hS : S.Ok) {k : Nat} {c wd : Int} (f : Fits S k c wd) (hb : S.bg.length = (S.A.length + 63) / 64) : (S.laid k c wd).Ok := by
  have hr := f.room
  have hw := f.w1
  have hw2 := f.w2
  obtain ⟨t0, t1, t2, t3⟩ := hS.sp0 k
  have hk' : k = 0 ∨ k = 1 ∨ k = 2 := by have := f.k3; omega
  have hfew := hS.few
  have hc2 := f.c2
  have hpk : headOk (packV c (wd - 2)) := headOk_pack _ _ f.c1 (by omega) (by omega) (by omega)
  have hpc : unC (packV c (wd - 2)) = c := unC_pack _ _ (by omega) (by omega)
  have hpn : unN (packV c (wd - 2)) = wd - 2 := unN_pack _ _ (by omega) (by omega)
  have hold : ∀ a, bhas S.bg a = true → (S.laid k c wd).A.getD a 0 = S.A.getD a 0 := fun a ha => laid_old hS f ha a (Nat.le_refl _) (by have := unN_nonneg (S.A.getD a 0); omega)
  have hnew : (S.laid k c wd).A.getD (S.sp k).top.toNat 0 = packV c (wd - 2) := by rw [laid_get hS f, if_pos (by omega)]
  have y0 := hS.y0; have y1 := hS.y1; have y2 := hS.y2; have a0 := hS.a0; have a1 := hS.a1; have a2 := hS.a2; have b0 := hS.b0; have b1 := hS.b1; have b2 := hS.b2; have b3 := hS.b3
  have ord : 0 ≤ (S.laid k c wd).y.fr ∧ (S.laid k c wd).y.fr ≤ (S.laid k c wd).y.top ∧ (S.laid k c wd).y.top ≤ (S.laid k c wd).y.to ∧ (S.laid k c wd).y.to ≤ (S.laid k c wd).h0.fr ∧ (S.laid k c wd).h0.fr ≤ (S.laid k c wd).h0.top ∧ (S.laid k c wd).h0.top ≤ (S.laid k c wd).h0.to ∧
      (S.laid k c wd).h0.to ≤ (S.laid k c wd).h1.fr ∧ (S.laid k c wd).h1.fr ≤ (S.laid k c wd).h1.top ∧ (S.laid k c wd).h1.top ≤ (S.laid k c wd).h1.to ∧ (S.laid k c wd).h1.to ≤ S.A.length := by
    rcases hk' with rfl | rfl | rfl <;> simp only [Hp.laid, Hp.setSp, Hp.sp] at t0 t1 t2 t3 hr ⊢ <;> omega
  obtain ⟨o1, o2, o3, o4, o5, o6, o7, o8, o9, o10⟩ := ord
  refine ⟨by rw [laid_len]; exact hS.len, by rw [laid_cs]; exact hS.few, by rw [laid_cs]; exact hS.small, by rw [laid_now]; exact hS.now, o1, o2, o3, o4, o5, o6, o7, o8, o9, by rw [laid_len]; exact o10, ?_, ?_, ?_⟩
  · intro a ha
    rw [laid_has hS f hb] at ha
    unfold Hp.headAt
    rw [laid_cs, laid_len]
    by_cases h : bhas S.bg a = true
    · rw [hold a h]
      exact hS.heads a h
    · have hat : (S.sp k).top.toNat = a := by simpa [h] using ha
      subst hat
      rw [hnew, hpc, hpn]
      exact ⟨hpk, f.c2, f.fld, by omega⟩
  · intro a ha
    rw [laid_has hS f hb] at ha
    by_cases h : bhas S.bg a = true
    · obtain ⟨j, hj, u1, u2⟩ := hS.used a h
      refine ⟨j, hj, ?_, ?_⟩
      · rw [laid_sp S k j c wd f.k3 hj]
        split
        · rename_i hjk; subst hjk; exact u1
        · exact u1
      · rw [hold a h, laid_sp S k j c wd f.k3 hj]
        split
        · rename_i hjk; subst hjk; dsimp only; omega
        · exact u2
    · have hat : (S.sp k).top.toNat = a := by simpa [h] using ha
      subst hat
      refine ⟨k, f.k3, ?_, ?_⟩
      · rw [laid_sp S k k c wd f.k3 f.k3, if_pos rfl]; dsimp only; omega
      · rw [hnew, hpn, laid_sp S k k c wd f.k3 f.k3, if_pos rfl]; dsimp only; omega
  · intro a b ha hb' hab
    rw [laid_has hS f hb] at ha hb'
    by_cases h1 : bhas S.bg a = true
    · rw [hold a h1]
      by_cases h2 : bhas S.bg b = true
      · exact hS.disj a b h1 h2 hab
      · have hat : (S.sp k).top.toNat = b := by simpa [h2] using hb'
        obtain ⟨j, hj, u1, u2⟩ := hS.used a h1
        obtain ⟨q0, q1, q2, q3⟩ := hS.sp0 j
        by_cases hjk : j = k
        · subst hjk; omega
        · have := hS.apart hj f.k3 hjk
          omega
    · have hat : (S.sp k).top.toNat = a := by simpa [h1] using ha
      by_cases h2 : bhas S.bg b = true
      · subst hat
        rw [hnew, hpn]
        obtain ⟨j, hj, u1, u2⟩ := hS.used b h2
        obtain ⟨q0, q1, q2, q3⟩ := hS.sp0 j
        have hnn := unN_nonneg (S.A.getD b 0)
        by_cases hjk : j = k
        · subst hjk; omega
        · have := hS.apart hj f.k3 hjk
          omega
      · have hbt : (S.sp k).top.toNat = b := by simpa [h2] using hb'
        omega

end Go.Proofs.YtneeljhjfmcdoaaDoor
