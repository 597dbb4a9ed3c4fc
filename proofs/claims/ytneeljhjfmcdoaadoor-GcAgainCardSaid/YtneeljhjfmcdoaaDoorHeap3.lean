/- The heap: an object is laid in a space. The heap: the walk of lay. -/
import Derived.Test.YtneeljhjfmcdoaaDoorHeap
import Derived.Deep.RegionWith
/-! The heap: an object is laid in a space. -/
namespace Go.Proofs.YtneeljhjfmcdoaaDoor
open Go.RowKit

def Hp.setSp (S : Hp) (k : Nat) (s : Spc) : Hp :=
  match k with
  | 0 => { S with y := s }
  | 1 => { S with h0 := s }
  | _ => { S with h1 := s }

/-- The heap behind an object of class c and wd words that is laid in space k. -/
def Hp.laid (S : Hp) (k : Nat) (c wd : Int) : Hp :=
  { S.setSp k { S.sp k with top := (S.sp k).top + wd } with A := (clearL S.A (S.sp k).top ((S.sp k).top + wd)).set (S.sp k).top.toNat (packV c (wd - 2)), bg := badd S.bg (S.sp k).top.toNat }

section
variable (S : Hp) (k : Nat) (c wd : Int)
@[simp] theorem laid_cs : (S.laid k c wd).cs = S.cs := by unfold Hp.laid Hp.setSp; match k with | 0 => rfl | 1 => rfl | _ + 2 => rfl
@[simp] theorem laid_mr : (S.laid k c wd).mr = S.mr := by unfold Hp.laid Hp.setSp; match k with | 0 => rfl | 1 => rfl | _ + 2 => rfl
@[simp] theorem laid_now : (S.laid k c wd).now = S.now := by unfold Hp.laid Hp.setSp; match k with | 0 => rfl | 1 => rfl | _ + 2 => rfl
theorem laid_A : (S.laid k c wd).A = (clearL S.A (S.sp k).top ((S.sp k).top + wd)).set (S.sp k).top.toNat (packV c (wd - 2)) := rfl
theorem laid_bg : (S.laid k c wd).bg = badd S.bg (S.sp k).top.toNat := rfl
@[simp] theorem laid_len : (S.laid k c wd).A.length = S.A.length := by rw [laid_A, List.length_set, clearL_len]
end

/-- What is asked of an object that is laid. -/
structure Fits (S : Hp) (k : Nat) (c wd : Int) : Prop where
  k3 : k < 3
  c1 : -2 ≤ c
  c2 : c < S.cs.length
  w1 : 2 ≤ wd
  w2 : wd ≤ 52
  fld : 0 ≤ c → wd - 2 = (S.cs.getD c.toNat ByteArray.empty).size
  room : wd ≤ (S.sp k).to - (S.sp k).top

theorem Hp.Ok.sp0 {S : Hp} (h : S.Ok) (k : Nat) : 0 ≤ (S.sp k).fr ∧ (S.sp k).fr ≤ (S.sp k).top ∧ (S.sp k).top ≤ (S.sp k).to ∧ (S.sp k).to ≤ S.A.length := by
  have := h.y0; have := h.y1; have := h.y2; have := h.a0; have := h.a1; have := h.a2; have := h.b0; have := h.b1; have := h.b2; have := h.b3
  match k with
  | 0 => simp only [Hp.sp]; omega
  | 1 => simp only [Hp.sp]; omega
  | _ + 2 => simp only [Hp.sp]; omega

/-- Spaces lie apart. -/
theorem Hp.Ok.apart {S : Hp} (h : S.Ok) {j k : Nat} (hj : j < 3) (hk : k < 3) (hne : j ≠ k) : (S.sp j).to ≤ (S.sp k).fr ∨ (S.sp k).to ≤ (S.sp j).fr := by
  have := h.y0; have := h.y1; have := h.y2; have := h.a0; have := h.a1; have := h.a2; have := h.b0; have := h.b1; have := h.b2; have := h.b3
  have hj' : j = 0 ∨ j = 1 ∨ j = 2 := by omega
  have hk' : k = 0 ∨ k = 1 ∨ k = 2 := by omega
  rcases hj' with rfl | rfl | rfl <;> rcases hk' with rfl | rfl | rfl <;> simp only [Hp.sp] <;> first | omega | exact absurd rfl hne

theorem laid_get {S : Hp} (hS : S.Ok) {k : Nat} {c wd : Int} (f : Fits S k c wd) (i : Nat) :
    (S.laid k c wd).A.getD i 0 = if (i : Int) = (S.sp k).top then packV c (wd - 2) else if (S.sp k).top ≤ (i : Int) ∧ (i : Int) < (S.sp k).top + wd then 0 else S.A.getD i 0 := by
  obtain ⟨s0, s1, s2, s3⟩ := hS.sp0 k
  have hr := f.room
  have hw := f.w1
  obtain ⟨t, ht⟩ := Int.eq_ofNat_of_zero_le (show 0 ≤ (S.sp k).top by omega)
  obtain ⟨wn, rfl⟩ := Int.eq_ofNat_of_zero_le (show 0 ≤ wd by omega)
  have e1 : clearL S.A (S.sp k).top ((S.sp k).top + (wn : Int)) = clearL S.A ((t : Nat) : Int) ((t + wn : Nat) : Int) := by rw [ht]; congr 1
  rw [laid_A, e1, show (S.sp k).top.toNat = t by omega, getD_set _ _ _ _ (by rw [clearL_len]; omega), getD_clear S.A t (t + wn) i (by omega) (by omega)]
  by_cases h : i = t
  · rw [if_pos h, if_pos (show (i : Int) = (S.sp k).top by omega)]
  · rw [if_neg h, if_neg (show ¬ (i : Int) = (S.sp k).top by omega)]
    by_cases h2 : t ≤ i ∧ i < t + wn
    · rw [if_pos h2, if_pos (show (S.sp k).top ≤ (i : Int) ∧ (i : Int) < (S.sp k).top + (wn : Int) by omega)]
    · rw [if_neg h2, if_neg (show ¬ ((S.sp k).top ≤ (i : Int) ∧ (i : Int) < (S.sp k).top + (wn : Int)) by omega)]

/-- The words of an object that is there lie where nothing is laid. -/
theorem laid_old {S : Hp} (hS : S.Ok) {k : Nat} {c wd : Int} (f : Fits S k c wd) {a : Nat} (ha : bhas S.bg a = true) (i : Nat) (hi : a ≤ i) (hi2 : (i : Int) < (a : Int) + 2 + unN (S.A.getD a 0)) :
    (S.laid k c wd).A.getD i 0 = S.A.getD i 0 := by
  obtain ⟨j, hj, u1, u2⟩ := hS.used a ha
  obtain ⟨s0, s1, s2, s3⟩ := hS.sp0 j
  obtain ⟨t0, t1, t2, t3⟩ := hS.sp0 k
  have hr := f.room
  have hw := f.w1
  rw [laid_get hS f]
  by_cases hjk : j = k
  · subst hjk
    rw [if_neg (by omega), if_neg (by omega)]
  · have := hS.apart hj f.k3 hjk
    rw [if_neg (by omega), if_neg (by omega)]

theorem laid_has {S : Hp} (hS : S.Ok) {k : Nat} {c wd : Int} (f : Fits S k c wd) (hb : S.bg.length = (S.A.length + 63) / 64) (a : Nat) :
    bhas (S.laid k c wd).bg a = (bhas S.bg a || decide ((S.sp k).top.toNat = a)) := by
  obtain ⟨t0, t1, t2, t3⟩ := hS.sp0 k
  have hr := f.room
  have hw := f.w1
  rw [laid_bg, badd_get _ _ _ (by omega)]

theorem laid_new {S : Hp} (hS : S.Ok) {k : Nat} {c wd : Int} (f : Fits S k c wd) : bhas S.bg (S.sp k).top.toNat = false := by
  by_cases h : bhas S.bg (S.sp k).top.toNat = true
  · exfalso
    obtain ⟨j, hj, u1, u2⟩ := hS.used _ h
    obtain ⟨s0, s1, s2, s3⟩ := hS.sp0 j
    obtain ⟨t0, t1, t2, t3⟩ := hS.sp0 k
    have hr := f.room
    have hw := f.w1
    have hn := unN_nonneg (S.A.getD (S.sp k).top.toNat 0)
    by_cases hjk : j = k
    · subst hjk; omega
    · have := hS.apart hj f.k3 hjk
      omega
  · simpa using h

theorem setSp_sp (S : Hp) (k j : Nat) (s : Spc) (hk : k < 3) (hj : j < 3) : (S.setSp k s).sp j = if j = k then s else S.sp j := by
  have hj' : j = 0 ∨ j = 1 ∨ j = 2 := by omega
  have hk' : k = 0 ∨ k = 1 ∨ k = 2 := by omega
  rcases hj' with rfl | rfl | rfl <;> rcases hk' with rfl | rfl | rfl <;> rfl

theorem laid_sp (S : Hp) (k j : Nat) (c wd : Int) (hk : k < 3) (hj : j < 3) : (S.laid k c wd).sp j = if j = k then { S.sp k with top := (S.sp k).top + wd } else S.sp j := by
  have := setSp_sp S k j { S.sp k with top := (S.sp k).top + wd } hk hj
  have hj' : j = 0 ∨ j = 1 ∨ j = 2 := by omega
  rcases hj' with rfl | rfl | rfl <;> exact this

theorem laid_ok {S : Hp} (hS : S.Ok) {k : Nat} {c wd : Int} (f : Fits S k c wd) (hb : S.bg.length = (S.A.length + 63) / 64) : (S.laid k c wd).Ok := by
  have hr := f.room
  have hw := f.w1
  have hw2 := f.w2
  obtain ⟨t0, t1, t2, t3⟩ := hS.sp0 k
  have hk' : k = 0 ∨ k = 1 ∨ k = 2 := by have := f.k3; omega
  have hfew := hS.few
  have hc2 := f.c2
  have hpk : headOk (packV c (wd - 2)) := headOk_pack _ _ f.c1 (by omega) (by omega) (by omega)
  have hpc : unC (packV c (wd - 2)) = c := unC_pack _ _ (by omega) (by omega)
  have hpn : unN (packV c (wd - 2)) = wd - 2 := unN_pack _ _ (by omega) (by omega)
  have hold : ∀ a, bhas S.bg a = true → (S.laid k c wd).A.getD a 0 = S.A.getD a 0 := fun a ha => laid_old hS f ha a (Nat.le_refl _) (by have := unN_nonneg (S.A.getD a 0); omega)
  have hnew : (S.laid k c wd).A.getD (S.sp k).top.toNat 0 = packV c (wd - 2) := by rw [laid_get hS f, if_pos (by omega)]
  have y0 := hS.y0; have y1 := hS.y1; have y2 := hS.y2; have a0 := hS.a0; have a1 := hS.a1; have a2 := hS.a2; have b0 := hS.b0; have b1 := hS.b1; have b2 := hS.b2; have b3 := hS.b3
  have ord : 0 ≤ (S.laid k c wd).y.fr ∧ (S.laid k c wd).y.fr ≤ (S.laid k c wd).y.top ∧ (S.laid k c wd).y.top ≤ (S.laid k c wd).y.to ∧ (S.laid k c wd).y.to ≤ (S.laid k c wd).h0.fr ∧ (S.laid k c wd).h0.fr ≤ (S.laid k c wd).h0.top ∧ (S.laid k c wd).h0.top ≤ (S.laid k c wd).h0.to ∧
      (S.laid k c wd).h0.to ≤ (S.laid k c wd).h1.fr ∧ (S.laid k c wd).h1.fr ≤ (S.laid k c wd).h1.top ∧ (S.laid k c wd).h1.top ≤ (S.laid k c wd).h1.to ∧ (S.laid k c wd).h1.to ≤ S.A.length := by
    rcases hk' with rfl | rfl | rfl <;> simp only [Hp.laid, Hp.setSp, Hp.sp] at t0 t1 t2 t3 hr ⊢ <;> omega
  obtain ⟨o1, o2, o3, o4, o5, o6, o7, o8, o9, o10⟩ := ord
  refine ⟨by rw [laid_len]; exact hS.len, by rw [laid_cs]; exact hS.few, by rw [laid_cs]; exact hS.small, by rw [laid_now]; exact hS.now, o1, o2, o3, o4, o5, o6, o7, o8, o9, by rw [laid_len]; exact o10, ?_, ?_, ?_⟩
  · intro a ha
    rw [laid_has hS f hb] at ha
    unfold Hp.headAt
    rw [laid_cs, laid_len]
    by_cases h : bhas S.bg a = true
    · rw [hold a h]
      exact hS.heads a h
    · have hat : (S.sp k).top.toNat = a := by simpa [h] using ha
      subst hat
      rw [hnew, hpc, hpn]
      exact ⟨hpk, f.c2, f.fld, by omega⟩
  · intro a ha
    rw [laid_has hS f hb] at ha
    by_cases h : bhas S.bg a = true
    · obtain ⟨j, hj, u1, u2⟩ := hS.used a h
      refine ⟨j, hj, ?_, ?_⟩
      · rw [laid_sp S k j c wd f.k3 hj]
        split
        · rename_i hjk; subst hjk; exact u1
        · exact u1
      · rw [hold a h, laid_sp S k j c wd f.k3 hj]
        split
        · rename_i hjk; subst hjk; dsimp only; omega
        · exact u2
    · have hat : (S.sp k).top.toNat = a := by simpa [h] using ha
      subst hat
      refine ⟨k, f.k3, ?_, ?_⟩
      · rw [laid_sp S k k c wd f.k3 f.k3, if_pos rfl]; dsimp only; omega
      · rw [hnew, hpn, laid_sp S k k c wd f.k3 f.k3, if_pos rfl]; dsimp only; omega
  · intro a b ha hb' hab
    rw [laid_has hS f hb] at ha hb'
    by_cases h1 : bhas S.bg a = true
    · rw [hold a h1]
      by_cases h2 : bhas S.bg b = true
      · exact hS.disj a b h1 h2 hab
      · have hat : (S.sp k).top.toNat = b := by simpa [h2] using hb'
        obtain ⟨j, hj, u1, u2⟩ := hS.used a h1
        obtain ⟨q0, q1, q2, q3⟩ := hS.sp0 j
        by_cases hjk : j = k
        · subst hjk; omega
        · have := hS.apart hj f.k3 hjk
          omega
    · have hat : (S.sp k).top.toNat = a := by simpa [h1] using ha
      by_cases h2 : bhas S.bg b = true
      · subst hat
        rw [hnew, hpn]
        obtain ⟨j, hj, u1, u2⟩ := hS.used b h2
        obtain ⟨q0, q1, q2, q3⟩ := hS.sp0 j
        have hnn := unN_nonneg (S.A.getD b 0)
        by_cases hjk : j = k
        · subst hjk; omega
        · have := hS.apart hj f.k3 hjk
          omega
      · have hbt : (S.sp k).top.toNat = b := by simpa [h2] using hb'
        omega

end Go.Proofs.YtneeljhjfmcdoaaDoor

/-! The heap: the walk of lay. -/
namespace Go.Proofs.YtneeljhjfmcdoaaDoor
open Go.RowKit

theorem words_fits {S : Hp} (hS : S.Ok) {k : Nat} {c n : Int} (hk : k < 3) (hw : 1 ≤ S.words c n) (hr : S.words c n ≤ (S.sp k).to - (S.sp k).top) : Fits S k c (S.words c n) := by
  unfold Hp.words at *
  by_cases h : c < -2 ∨ (S.cs.length : Int) ≤ c ∨ c < 0 ∧ (n < 0 ∨ 50 < n)
  · rw [if_pos h] at hw; omega
  · rw [if_neg h] at *
    by_cases h0 : 0 ≤ c
    · rw [if_pos h0] at *
      have hl : c.toNat < S.cs.length := by omega
      have hsm : (S.cs.getD c.toNat ByteArray.empty).size ≤ 10 := by
        rw [List.getD_eq_getElem?_getD, List.getElem?_eq_getElem hl]
        exact hS.small _ (List.getElem_mem hl)
      exact ⟨hk, by omega, by omega, by omega, by omega, fun _ => by omega, hr⟩
    · rw [if_neg h0] at *
      exact ⟨hk, by omega, by omega, by omega, by omega, fun h => absurd h h0, hr⟩

theorem words_zero (S : Hp) (c n : Int) : 0 ≤ S.words c n := by
  unfold Hp.words
  split
  · omega
  · split <;> omega

theorem hcells_laid (cv mv : Value) (L : HL) (S : Hp) (k : Nat) (c wd : Int) (hk : k < 3) : (hcells cv mv L S).setIfInBounds (3 + 3 * k + 2) (.int .i64 ((S.sp k).top + wd)) = hcells cv mv L (S.laid k c wd) := by
  have hk' : k = 0 ∨ k = 1 ∨ k = 2 := by omega
  rcases hk' with rfl | rfl | rfl <;> rfl

theorem sp_cells {w : World} {L : HL} {cv mv : Value} {S : Hp} (h : w.heap[L.hb]? = some (.cells (hcells cv mv L S) 94)) (k : Nat) (hk : k < 3) :
    w.cell? ⟨L.hb, 3 + 3 * k, none⟩ = some (.int .i64 (S.sp k).fr) ∧ w.cell? ⟨L.hb, 3 + 3 * k + 1, none⟩ = some (.int .i64 (S.sp k).to) ∧ w.cell? ⟨L.hb, 3 + 3 * k + 2, none⟩ = some (.int .i64 (S.sp k).top) := by
  rw [cell_of h, cell_of h, cell_of h]
  have hk' : k = 0 ∨ k = 1 ∨ k = 2 := by omega
  rcases hk' with rfl | rfl | rfl <;> exact ⟨rfl, rfl, rfl⟩

set_option maxRecDepth 100000 in
set_option maxHeartbeats 1000000 in
theorem lay_no (L : HL) (cv mv : Value) (S : Hp) (k : Nat) (hk : k < 3) (c n : Int) (w : World) (h : HpAt w L cv mv S) (hno : S.words c n = 0 ∨ (S.sp k).to - (S.sp k).top < S.words c n) :
    Calls Tryd.prog 37 #[.pointer (some ⟨L.hb, 0, none⟩), .pointer (some ⟨L.hb, 3 + 3 * k, none⟩), .int .i64 c, .int .i64 n] w fun e w' => e = .returned (.tuple #[.int .i64 0, .bool false]) ∧ Upd [] w w' := by
  obtain ⟨s0, s1, s2, s3⟩ := h.ok.sp0 k
  have hl := h.ok.len
  have hwz := words_zero S c n
  go_enter Tryd.func37, Tryd.ntmps37
  go_wp2_with fail
  refine (words_any _ _ _ _ _ _ _ h).mono ?_
  rintro e w1 ⟨rfl, hu⟩
  obtain ⟨c0, c1, c2⟩ := sp_cells (h.upd0 hu).hb k hk
  go_wp2_with fail
  refine (take_no _ _ _ _ _ _ (by omega) s2 (by omega) (by omega) c1 c2).mono ?_
  rintro e w2 ⟨rfl, m, rfl⟩
  go_wp2_with fail
  go_ret2
  exact ⟨rfl, hu.drewN _⟩

theorem HL.ne {L : HL} (h : L.all.Nodup) : (L.hb ≠ L.ab ∧ L.hb ≠ L.wb ∧ L.hb ≠ L.bb ∧ L.hb ≠ L.bw ∧ L.hb ≠ L.mb ∧ L.hb ≠ L.mw ∧ L.hb ≠ L.cb) ∧ (L.wb ≠ L.ab ∧ L.wb ≠ L.bb ∧ L.wb ≠ L.bw ∧ L.wb ≠ L.mb ∧ L.wb ≠ L.mw ∧ L.wb ≠ L.cb) ∧
    (L.bw ≠ L.ab ∧ L.bw ≠ L.bb ∧ L.bw ≠ L.mb ∧ L.bw ≠ L.mw ∧ L.bw ≠ L.cb) ∧ (L.mw ≠ L.ab ∧ L.mw ≠ L.bb ∧ L.mw ≠ L.mb ∧ L.mw ≠ L.cb) := by
  simp only [HL.all, List.nodup_cons, List.mem_cons, List.not_mem_nil, or_false, not_or] at h
  obtain ⟨⟨a1, a2, a3, a4, a5, a6, a7⟩, ⟨b1, b2, b3, b4, b5, b6⟩, ⟨c1, c2, c3, c4, c5⟩, ⟨d1, d2, d3, d4⟩, ⟨e1, e2, e3⟩, ⟨f1, f2⟩, g1, _⟩ := h
  exact ⟨⟨a1, a2, a3, a4, a5, a6, a7⟩, ⟨Ne.symm b1, c1, c2, c3, c4, c5⟩, ⟨Ne.symm b3, Ne.symm d1, e1, e2, e3⟩, ⟨Ne.symm b5, Ne.symm d3, Ne.symm f1, g1⟩⟩

theorem add_newI (b g n : Nat) (x : Int) (ws : List Nat) (w : World) (h : SetAt w b g n ws) (h0 : 0 ≤ x) (h1 : x < n) (hno : bhas ws x.toNat = false) :
    Calls Tryd.prog 39 #[.pointer (some ⟨b, 0, none⟩), .int .i64 x] w fun e w' => e = .returned (.bool true) ∧ SetAt w' b g n (badd ws x.toNat) ∧ Upd [g] w w' := by
  obtain ⟨k, rfl⟩ := Int.eq_ofNat_of_zero_le h0
  rw [Int.toNat_natCast] at *
  exact add_new b g n k ws w h (by omega) hno

/-- Half way of laying: the space has been taken from. -/
structure Half (w : World) (L : HL) (cv mv : Value) (S S' : Hp) : Prop where
  hb : w.heap[L.hb]? = some (.cells (hcells cv mv L S') 94)
  ar : ArAt w L.ab L.wb S.A
  bg : SetAt w L.bb L.bw S.A.length S.bg
  mr : SetAt w L.mb L.mw S.A.length S.mr
  cls : ClsAt w cv L.cb L.co S.cs

theorem takeH (L : HL) (cv mv : Value) (S : Hp) (k : Nat) (hk : k < 3) (c wd : Int) (w : World) (h : HpAt w L cv mv S) (h1 : 1 ≤ wd) (h2 : wd ≤ (S.sp k).to - (S.sp k).top) :
    Calls Tryd.prog 68 #[.pointer (some ⟨L.hb, 3 + 3 * k, none⟩), .int .i64 wd] w fun e w' => e = .returned (.tuple #[.int .i64 (S.sp k).top, .bool true]) ∧ Half w' L cv mv S (S.laid k c wd) ∧ Upd [L.hb] w w' := by
  obtain ⟨s0, s1, s2, s3⟩ := h.ok.sp0 k
  have hl := h.ok.len
  obtain ⟨c0, c1, c2⟩ := sp_cells h.hb k hk
  obtain ⟨⟨n1, n2, n3, n4, n5, n6, n7⟩, _⟩ := HL.ne h.nd
  refine (take_yes _ _ _ _ _ _ (by omega) s2 (by omega) h1 h2 c1 c2 (h.fz _)).mono ?_
  rintro e w2 ⟨rfl, m, rfl⟩
  have hu : Upd [L.hb] w ((w.setCell ⟨L.hb, 3 + 3 * k + 2, none⟩ (.int .i64 ((S.sp k).top + wd))).drewN m) := ((Upd.refl _ _).setCell (by simp) _).drewN _
  have hb2 : ((w.setCell ⟨L.hb, 3 + 3 * k + 2, none⟩ (.int .i64 ((S.sp k).top + wd))).drewN m).heap[L.hb]? = some (.cells (hcells cv mv L (S.laid k c wd)) 94) := by
    have := heap_setCell h.hb (3 + 3 * k + 2) (.int .i64 ((S.sp k).top + wd))
    rw [hcells_laid _ _ _ _ _ c _ hk] at this
    exact this
  have m1 : ∀ b, b ≠ L.hb → b ∉ [L.hb] := fun b hb => by simpa using hb
  exact ⟨rfl, ⟨hb2, h.ar.upd hu (m1 _ n1.symm) (m1 _ n2.symm), h.bg.upd hu (m1 _ n3.symm) (m1 _ n4.symm), h.mr.upd hu (m1 _ n5.symm) (m1 _ n6.symm), h.cls.upd hu (m1 _ n7.symm)⟩, hu⟩

set_option maxRecDepth 100000 in
set_option maxHeartbeats 1000000 in
theorem lay_yes (L : HL) (cv mv : Value) (S : Hp) (k : Nat) (hk : k < 3) (c n wd : Int) (w : World) (h : HpAt w L cv mv S) (hwd : Hid (S.words c n = wd)) (hw1 : 1 ≤ wd) (hw2 : wd ≤ (S.sp k).to - (S.sp k).top) :
    Calls Tryd.prog 37 #[.pointer (some ⟨L.hb, 0, none⟩), .pointer (some ⟨L.hb, 3 + 3 * k, none⟩), .int .i64 c, .int .i64 n] w fun e w' => e = .returned (.tuple #[.int .i64 ((S.sp k).top + 1), .bool true]) ∧ HpAt w' L cv mv (S.laid k c wd) ∧ Upd [L.hb, L.wb, L.bw] w w' := by
  obtain ⟨s0, s1, s2, s3⟩ := h.ok.sp0 k
  have hl := h.ok.len
  have hfit : Fits S k c wd := by
    have := words_fits h.ok hk (c := c) (n := n) (by rw [hwd.out]; exact hw1) (by rw [hwd.out]; exact hw2)
    rwa [hwd.out] at this
  have hf1 := hfit.c1
  have hf2 := hfit.c2
  have hf3 := hfit.w1
  have hf4 := hfit.w2
  have hfew := h.ok.few
  have HNE := Lib.hid (HL.ne h.nd)
  go_enter Tryd.func37, Tryd.ntmps37
  go_wp2_with fail
  refine (words_any _ _ _ _ _ _ _ h).mono ?_
  rintro e w1 ⟨rfl, hu⟩
  rw [hwd.out]
  have h1 := h.upd0 hu
  go_wp2_with fail
  refine (takeH _ _ _ _ _ hk c _ _ h1 hw1 hw2).mono ?_
  rintro e w2 ⟨rfl, hH, hu2⟩
  have d2 : w2.cell? ⟨L.hb, 2, none⟩ = some (.pointer (some ⟨L.ab, 0, none⟩)) := by rw [cell_of hH.hb]; rfl
  go_wp2_with fail
  refine (clear_any _ _ _ _ _ _ hH.ar).mono ?_
  rintro e w3 ⟨rfl, hA3, hu3⟩
  have hb3 : w3.heap[L.hb]? = some (.cells (hcells cv mv L (S.laid k c wd)) 94) := hu3.heap hH.hb (by simp; exact HNE.out.1.2.1)
  have d3 : w3.cell? ⟨L.hb, 2, none⟩ = some (.pointer (some ⟨L.ab, 0, none⟩)) := by rw [cell_of hb3]; rfl
  have HB3 := Lib.hid hb3
  clear hb3 d2
  have HP := Lib.hid (fun w => pack_yes c (wd - 2) w hf1 (by omega) (by omega) (by omega))
  have HST := Lib.hid (fun v => store_in _ _ _ (S.sp k).top v w3.drew (hA3.upd ((Upd.refl [] w3).drew) (by simp) (by simp)) (by omega) (by rw [clearL_len]; omega))
  go_wp2_with fail
  have q1 : IntKind.i64.wrap (wd - 2) = wd - 2 := IntWalk.i64_in _ (by omega)
  have q2 : IntKind.i64.wrap (S.sp k).top = (S.sp k).top := IntWalk.i64_in _ (by omega)
  go_region_with (first | (go_at_call 71; refine (HP.out _).mono ?_; rintro e w' ⟨rfl, rfl⟩) | (go_at_call 70; refine (HST.out _).mono ?_; rintro e w4 ⟨rfl, hA4, hu4⟩))
  all_goals
    have hu24 : Upd [L.wb] w2 w4 := hu3.trans (((Upd.refl [L.wb] w3).drew).trans hu4)
    have hb4 : w4.heap[L.hb]? = some (.cells (hcells cv mv L (S.laid k c wd)) 94) := hu24.heap hH.hb (by simp; exact HNE.out.1.2.1)
    have d4 : w4.cell? ⟨L.hb, 13, none⟩ = some (.pointer (some ⟨L.bb, 0, none⟩)) := by rw [cell_of hb4]; rfl
    have HB4 := Lib.hid hb4
    have hS4 : SetAt w4 L.bb L.bw S.A.length S.bg := hH.bg.upd hu24 (by simp; exact Ne.symm HNE.out.2.1.2.1) (by simp; exact Ne.symm HNE.out.2.1.2.2.1)
    have hM4 : SetAt w4 L.mb L.mw S.A.length S.mr := hH.mr.upd hu24 (by simp; exact Ne.symm HNE.out.2.1.2.2.2.1) (by simp; exact Ne.symm HNE.out.2.1.2.2.2.2.1)
    have hC4 : ClsAt w4 cv L.cb L.co S.cs := hH.cls.upd hu24 (by simp; exact Ne.symm HNE.out.2.1.2.2.2.2.2)
    have hu14 : Upd [L.hb, L.wb, L.bw] w w4 := ((hu.mono (T := [L.hb, L.wb, L.bw]) (by simp)).trans (hu2.mono (by simp))).trans (hu24.mono (by simp))
    clear hb4 d3 q1 q2
    go_wp2_with fail
    refine (add_newI _ _ _ _ _ _ hS4 (by omega) (by omega) (laid_new h.ok hfit)).mono ?_
    rintro e w5 ⟨rfl, hS5, hu5⟩
    have h5 : HpAt w5 L cv mv (S.laid k c wd) := by
      obtain ⟨⟨n1, n2, n3, n4, n5, n6, n7⟩, ⟨p1, p2, p3, p4, p5, p6⟩, ⟨r1, r2, r3, r4, r5⟩, _⟩ := HNE.out
      have m1 : ∀ b, b ≠ L.bw → b ∉ [L.bw] := fun b hb => by simpa using hb
      refine ⟨hu5.heap HB4.out (m1 _ n4), ?_, ?_, ?_, ?_, h.nd, laid_ok h.ok hfit h.bg.2.2.2.1⟩
      · exact hA4.upd hu5 (m1 _ (Ne.symm r1)) (m1 _ p3)
      · rw [laid_len]; exact hS5
      · rw [laid_len, laid_mr]; exact hM4.upd hu5 (m1 _ (Ne.symm r3)) (m1 _ (Ne.symm r4))
      · rw [laid_cs]; exact hC4.upd hu5 (m1 _ (Ne.symm r5))
    have hu15 : Upd [L.hb, L.wb, L.bw] w w5 := hu14.trans (hu5.mono (by simp))
    clear hS5 hu5 hS4 hM4 hC4 hu14 hu24 hA4 hA3 hu4 hu3
    go_wp2_with fail
    go_ret2
    exact ⟨rfl, h5, hu15⟩

end Go.Proofs.YtneeljhjfmcdoaaDoor
