/- DomChain: the law's walk. -/
import Derived.Test.YtjjkliifpdcliaaDoorDomQR
import Derived.Test.YtjjkliifpdcliaaDoorFirst6
import Derived.Test.YtjjkliifpdcliaaDoorPlace
namespace Go.Proofs.YtjjkliifpdcliaaDoor
open Go.RowKit

theorem tmodR (a n : Int) (h : 0 < n) : -n < a.tmod n ∧ a.tmod n < n := by
  have h1 := Int.tmod_lt_of_pos a h
  have h2 := Int.tmod_lt_of_pos (-a) h
  rw [Int.neg_tmod] at h2
  omega
theorem tmodR2 (a n : Int) (h : 0 < n) : 0 ≤ (a.tmod n + n).tmod n ∧ (a.tmod n + n).tmod n < n := by
  have h1 := tmodR a n h
  exact ⟨Int.tmod_nonneg _ (by omega), Int.tmod_lt_of_pos _ h⟩

/-- The row with one way more. -/
def rowC (n fr tt : Nat) : List (List Nat) := tabL n fun k => (if k + 1 < n then [k + 1] else []) ++ if k = fr then [tt] else []
theorem rowC_len (n fr tt : Nat) : (rowC n fr tt).length = n := tabL_len _ _
theorem rowC_get (n fr tt k : Nat) (h : k < n) : (rowC n fr tt).getD k [] = (if k + 1 < n then [k + 1] else []) ++ if k = fr then [tt] else [] := tabL_get _ _ _ h
theorem rowC_of (n fr tt : Nat) (hn : 0 < n) (hf : fr < n) : (intsL (rowsA n (n - 1))).set fr ((intsL (rowsA n (n - 1))).getD fr [] ++ [(tt : Int)]) = intsL (rowC n fr tt) := by
  rw [intsL_get, ← ints_snoc, intsL_set]
  congr 1
  have h1 : (rowsA n (n - 1)).getD fr [] = if fr < n - 1 then [fr + 1] else [] := tabL_get _ _ _ hf
  rw [h1]
  unfold rowsA rowC
  refine tabL_set _ _ _ _ _ (fun j hj => ?_)
  by_cases e : j = fr
  · subst e
    rw [if_pos rfl, if_pos rfl]
    by_cases h2 : j + 1 < n
    · rw [if_pos h2, if_pos (by omega)]
    · rw [if_neg h2, if_neg (by omega)]
  · rw [if_neg e, if_neg e, List.append_nil]
    by_cases h2 : j + 1 < n
    · rw [if_pos h2, if_pos (by omega)]
    · rw [if_neg h2, if_neg (by omega)]

def rowG (n fr tt : Nat) : List (List Int) := intsL (rowC n fr tt)
theorem rowG_len (n fr tt : Nat) : (rowG n fr tt).length = n := by
  unfold rowG
  rw [intsL_len, rowC_len]
theorem rowG_ed (n fr tt p x : Nat) (ht : tt < n) : Ed (cleanG (rowG n fr tt)) p x ↔ p < n ∧ ((p + 1 < n ∧ x = p + 1) ∨ (p = fr ∧ x = tt)) := by
  rcases Nat.lt_or_ge p n with h | h
  · unfold Ed
    rw [cleanG_get _ p (by rw [rowG_len]; exact h), (crow_spec _ _).2, rowG_len]
    have h1 : (rowG n fr tt).getD p [] = ints ((if p + 1 < n then [p + 1] else []) ++ if p = fr then [tt] else []) := by
      unfold rowG
      rw [intsL_get, rowC_get _ _ _ _ h]
    rw [h1, ints_mem, List.mem_append]
    constructor
    · rintro ⟨h2, h3 | h3⟩
      · split at h3
        · rename_i h4
          simp at h3
          exact ⟨h, .inl ⟨h4, h3⟩⟩
        · simp at h3
      · split at h3
        · rename_i h4
          simp at h3
          exact ⟨h, .inr ⟨h4, h3⟩⟩
        · simp at h3
    · rintro ⟨_, ⟨h2, rfl⟩ | ⟨h2, rfl⟩⟩
      · exact ⟨h2, .inl (by rw [if_pos h2]; simp)⟩
      · exact ⟨ht, .inr (by rw [if_pos h2]; simp)⟩
  · constructor
    · intro hh
      have := (ed_lt hh).1
      rw [rowG_len] at this
      omega
    · rintro ⟨h2, _⟩; omega

/-- Reached without coming tt a. -/
theorem rowG_av (n fr tt a b : Nat) (ht : tt < n) (hb : b < n) : Av (Ed (cleanG (rowG n fr tt))) a b ↔ b < a ∨ (fr < a ∧ a < tt ∧ tt ≤ b) := by
  constructor
  · intro h
    clear hb
    induction h with
    | zero h => exact .inl (by omega)
    | step p x _ e hne ih =>
      rcases ((rowG_ed n fr tt p x ht).1 e).2 with ⟨h1, h2⟩ | ⟨h1, h2⟩
      · rcases ih with h3 | h3
        · exact .inl (by omega)
        · exact .inr ⟨h3.1, h3.2.1, by omega⟩
      · rcases ih with h3 | h3
        · by_cases h4 : tt < a
          · exact .inl (by omega)
          · exact .inr ⟨by omega, by omega, by omega⟩
        · exact .inr ⟨h3.1, h3.2.1, by omega⟩
  · have low : ∀ x, x < a → x < n → Av (Ed (cleanG (rowG n fr tt))) a x := by
      intro x
      induction x with
      | zero => intro h _; exact .zero (by omega)
      | succ x ih =>
        intro h h2
        exact .step x (x + 1) (ih (by omega) (by omega)) ((rowG_ed n fr tt x (x + 1) ht).2 ⟨by omega, .inl ⟨h2, rfl⟩⟩) (by omega)
    rintro (h | ⟨h1, h2, h3⟩)
    · exact low b h hb
    · have hto : Av (Ed (cleanG (rowG n fr tt))) a tt := .step fr tt (low fr h1 (by omega)) ((rowG_ed n fr tt fr tt ht).2 ⟨by omega, .inr ⟨rfl, rfl⟩⟩) (by omega)
      have up : ∀ d, tt + d < n → Av (Ed (cleanG (rowG n fr tt))) a (tt + d) := by
        intro d
        induction d with
        | zero => intro _; exact hto
        | succ d ih =>
          intro h
          exact .step (tt + d) (tt + (d + 1)) (ih (by omega)) ((rowG_ed n fr tt (tt + d) (tt + (d + 1)) ht).2 ⟨by omega, .inl ⟨by omega, by omega⟩⟩) (by omega)
      have := up (b - tt) (by omega)
      rwa [show tt + (b - tt) = b by omega] at this
theorem rowG_rd (n fr tt x : Nat) (ht : tt < n) (hx : x < n) : Rd (cleanG (rowG n fr tt)) x := by
  have hl := rowG_len n fr tt
  rw [reach_avG (by rw [hl]; omega), hl]
  have low : ∀ x, x < n → Av (Ed (cleanG (rowG n fr tt))) n x := by
    intro x
    induction x with
    | zero => intro h; exact .zero (by omega)
    | succ x ih =>
      intro h
      exact .step x (x + 1) (ih (by omega)) ((rowG_ed n fr tt x (x + 1) ht).2 ⟨by omega, .inl ⟨h, rfl⟩⟩) (by omega)
  exact low x hx

open Classical in
theorem rowG_above {n fr tt : Nat} {f : Nat → Nat} (ht : tt < n) (ex : Exact (Rd (cleanG (rowG n fr tt))) (Ed (cleanG (rowG n fr tt))) (posn (cleanG (rowG n fr tt))) f) (a b : Nat) (ha : a < n) (hb : b < n) :
    abB (cleanG (rowG n fr tt)) f (a : Int) (b : Int) = (decide (a ≤ b) && !decide (fr < a ∧ a < tt ∧ tt ≤ b)) := by
  have h1 : aboveP (cleanG (rowG n fr tt)) f (a : Int) (b : Int) ↔ a ≤ b ∧ ¬ (fr < a ∧ a < tt ∧ tt ≤ b) := by
    unfold aboveP thereP
    simp only [Int.toNat_natCast]
    have h2 := ex.anc b (rowG_rd n fr tt b ht hb) a
    rw [rowG_av n fr tt a b ht hb] at h2
    constructor
    · rintro ⟨_, _, h3⟩
      have := h2.1 h3
      exact ⟨by omega, fun h4 => this (.inr h4)⟩
    · rintro ⟨h3, h4⟩
      exact ⟨⟨by omega, rowG_rd n fr tt a ht ha⟩, ⟨by omega, rowG_rd n fr tt b ht hb⟩, h2.2 (by rintro (h5 | h5); omega; exact h4 h5)⟩
  unfold abB
  by_cases h2 : a ≤ b ∧ ¬ (fr < a ∧ a < tt ∧ tt ≤ b)
  · rw [decide_eq_true (h1.2 h2), decide_eq_true h2.1, decide_eq_false h2.2]; rfl
  · rw [decide_eq_false (fun h => h2 (h1.1 h))]
    by_cases h3 : a ≤ b
    · have h4 : fr < a ∧ a < tt ∧ tt ≤ b := Decidable.byContradiction fun h => h2 ⟨h3, h⟩
      rw [decide_eq_true h3, decide_eq_true h4]; rfl
    · rw [decide_eq_false h3]; rfl

open Classical in
theorem abB_fold (c : List (List Nat)) (f : Nat → Nat) (a b : Int) : decide (aboveP c f a b) = abB c f a b := rfl

open Classical in
set_option maxRecDepth 100000 in
set_option maxHeartbeats 4000000 in
theorem rowW_any (x0 x1 x2 : Int) (w : World) (hT : TzAt w) :
    Calls Tryd.prog 5 #[.int .i64 x0, .int .i64 x1, .int .i64 x2] w fun e w' => e = .returned (.bool true) ∧ Upd [] w w' := by
  obtain ⟨i0, hi, hz0, hz1, hz2⟩ := info_parts Tryd.infoInt
  have HI := Lib.hid hi
  have HZ0 := Lib.hid hz0
  have HZ1 := Lib.hid hz1
  have HZ2 := Lib.hid hz2
  clear hi hz0 hz1 hz2
  have HF := Lib.hid (first6_any w hT)
  have t1 := tmodR x0 30 (by omega)
  have t2 := tmodR2 x0 30 (by omega)
  have e1 : IntKind.i64.wrap (x0.tmod 30 + 30) = x0.tmod 30 + 30 := IntWalk.i64_in _ (by omega)
  have e2 : IntKind.i64.wrap ((x0.tmod 30 + 30).tmod 30 + 3) = (x0.tmod 30 + 30).tmod 30 + 3 := IntWalk.i64_in _ (by omega)
  obtain ⟨n, hn⟩ := Int.eq_ofNat_of_zero_le (show 0 ≤ (x0.tmod 30 + 30).tmod 30 + 3 by omega)
  have hn2 : 3 ≤ n := by omega
  have hn32 : n ≤ 32 := by omega
  rw [hn] at e2
  have hgz : ¬ (n : Int) = 0 := by omega
  have hgz2 : (n : Int) ≠ 0 := by omega
  have ta := tmodR x1 n (by omega)
  have tb' := tmodR x2 n (by omega)
  have ea : IntKind.i64.wrap (x1.tmod n + n) = x1.tmod n + n := IntWalk.i64_in _ (by omega)
  have eb : IntKind.i64.wrap (x2.tmod n + n) = x2.tmod n + n := IntWalk.i64_in _ (by omega)
  obtain ⟨fr, hfr⟩ := Int.eq_ofNat_of_zero_le (tmodR2 x1 n (by omega)).1
  obtain ⟨tt, hto⟩ := Int.eq_ofNat_of_zero_le (tmodR2 x2 n (by omega)).1
  have la := (tmodR2 x1 n (by omega)).2
  have lb := (tmodR2 x2 n (by omega)).2
  rw [hfr] at la
  rw [hto] at lb
  clear hT t1 t2
  go_enter Tryd.func5, Tryd.ntmps5
  go_wp2_with fail
  refine HF.out.mono ?_
  rintro e w1 ⟨rfl, hu1⟩
  have HU1 := Lib.hid hu1
  have hmk := make_rows w1 n (by omega)
  have hu2 := (Upd.refl [] w1).alloc (.cells (List.replicate n (Value.slice none 0 0)).toArray 27)
  have hL0 : OwnL (w1.alloc (.cells (List.replicate n (Value.slice none 0 0)).toArray 27)) w1.heap.size (w1.alloc (.cells (List.replicate n (Value.slice none 0 0)).toArray 27)).heap.size w1.heap.size (List.replicate n (Value.slice none 0 0)) (List.replicate n []) := OwnL.made w1 _ _ n (Nat.le_refl _) (by simp)
  rw [← rowsA_zero] at hL0
  have HL0 := Lib.hid hL0
  have HU2 := Lib.hid (HU1.out.trans hu2)
  have HUa := Lib.hid hu2
  rw [List.toArray_replicate] at HL0 HU2 hmk HUa
  clear hL0 hu1 hu2 HF
  go_wp2_with fail
  generalize hw2 : w1.alloc (.cells (Array.replicate n (Value.slice none 0 0)) 27) = w2 at HL0 HU2 HUa ⊢
  clear hw2 hmk e1 e2 ea eb hfr hto hn ta tb' hgz hgz2
  have hs1 := HU1.out.size
  have hs2 := HUa.out.size
  go_loopw [9] (fun iv wr => ∃ (i : Nat) (vs : List Value), i < n ∧ iv = .int .i64 (i : Int) ∧ Hid (OwnL wr w1.heap.size w2.heap.size w1.heap.size vs (intsL (rowsA n i))) ∧ Hid (Upd [w1.heap.size] w2 wr)) (fun iv _ => n - (intOf iv).toNat)
  case atStart => exact ⟨0, List.replicate n (Value.slice none 0 0), by omega, rfl, HL0.out, Upd.refl _ _⟩
  case round =>
    obtain ⟨i, vs, hi, rfl, hL, hU⟩ := hrel
    obtain ⟨wo, rfl⟩ : ∃ wo : World, wo = wr := ⟨_, rfl⟩
    have hUs := hU.out.size
    by_cases hlt : i + 1 < n
    · have hil : i < (intsL (rowsA n i)).length := by rw [intsL_len, rowsA_len]; omega
      obtain ⟨hP, hPU⟩ := hL.out.place (by omega) i hil [(i : Int) + 1] (by simp)
      rw [rowsA_step] at hP
      have HP := Lib.hid hP
      have HPU := Lib.hid (hU.out.trans hPU)
      have hc := hL.out.cell i hil
      have hc2 := fun o => ((Upd.refl [] wo).alloc o).cell hc (by simp)
      have hf2 := fun o => froz_of ((((Upd.refl [] wo).alloc o)).heap hL.out.blk (by simp)) i
      have d1 : decide ((i : Int) + 1 < (n : Int)) = true := by simp; omega
      clear hP hPU hil
      go_wp2_with fail
      go_roundw
      case rel => exact ⟨i + 1, _, hlt, by go_num, HP, HPU⟩
      case measure => simp [intOf]; omega
    · have d1 : decide ((i : Int) + 1 < (n : Int)) = false := by simp; omega
      obtain rfl : i = n - 1 := by omega
      have hil : fr < (intsL (rowsA n (n - 1))).length := by rw [intsL_len, rowsA_len]; omega
      have hcv := hL.out.cell fr hil
      have hrow := hL.out.own fr hil
      obtain ⟨pv, cv, hv⟩ := hrow.shape
      rw [hv] at hcv
      have hrl : ((intsL (rowsA n (n - 1))).getD fr []).length ≤ 1 := by
        rw [intsL_get, ints_len]
        have h1 : (rowsA n (n - 1)).getD fr [] = if fr < n - 1 then [fr + 1] else [] := tabL_get _ _ _ (by omega)
        rw [h1]
        split <;> simp
      have HV := Lib.hid hv
      have HRW := Lib.hid hrow
      have HIL := Lib.hid hil
      have HRC := Lib.hid (rowC_of n fr tt (by omega) (by omega))
      have hfz := froz_of hL.out.blk fr
      generalize hgd : (intsL (rowsA n (n - 1))).getD fr [] = acc at hcv hrl HV HRW
      have HGD := Lib.hid hgd
      clear hv hrow hil hgd HL0
      go_wp2_with (at_builtin; refine stop_here ?_)
      refine Hid.mk ?_
      have hcn := cell_of (heap_alloc_new wo (.cells #[.int .i64 (tt : Int)] 3))
      refine (wpList_append_own_at _ rfl _ _ 27 rfl w2.heap.size 3 i0 (.int .i64 0) 1 8 Tryd.underlying27 HI.out HZ0.out HZ1.out HZ2.out rfl (by decide) _ _ _ rfl (by have := HRW.out.alloc (.cells #[.int .i64 (tt : Int)] 3); rw [HV.out] at this; exact this) ⟨wo.heap.size, 0, none⟩ 1 1 [.int .i64 (tt : Int)] rfl rfl ?c1 ?c2 ?c3 ?c4 ?c5 ?c6)
      case c1 =>
        intro jj uu hjj
        rw [Addr.add_lit, Nat.zero_add, hcn]
        simpa using hjj
      case c2 => simp [Value.oneCell']
      case c3 => unfold maxLen; omega
      case c4 => omega
      case c5 => simp; omega
      case c6 =>
        intro v' w5 hown hgr _ hat
        rw [← HV.out] at hgr hat
        obtain ⟨hb2, hL2, hu2, hge2⟩ := hL.out.push fr HIL.out (by rw [HGD.out]; exact hown) hgr hat
        rw [HRC.out] at hL2
        obtain ⟨g', cap', rfl⟩ := ownsRow_succ hown
        have HU5 := Lib.hid (hU.out.trans' hu2 (fun q hq hlt2 => by have := hge2 q hq; simp; omega))
        have hfg := froz_of hb2 fr
        have hcg2 : ∃ u, w5.cell? ⟨w1.heap.size, fr, none⟩ = some u := by
          rw [cell_of hb2]
          have h1 := hL.out.len
          have h2 := HIL.out
          exact ⟨vs.getD fr undef, by simp [List.getD_eq_getElem?_getD, List.getElem?_eq_getElem (show fr < vs.length by omega)]⟩
        obtain ⟨u9, hcg2⟩ := hcg2
        have HL2 := Lib.hid hL2
        clear hb2 hL2 hu2 hge2 hown hgr hat hcn hcv hfz
        go_wp2_with fail
        have HRG : Hid (rowG n fr tt = intsL (rowC n fr tt)) := (rfl : _ = _)
        have hgl := rowG_len n fr tt
        rw [← HRG.out] at HL2
        have hrng : ∀ l ∈ rowG n fr tt, (∀ x ∈ l, -9223372036854775808 ≤ x ∧ x ≤ 9223372036854775807) ∧ l.length ≤ 2 := fun l hl => by
          obtain ⟨k, hk, rfl⟩ := List.getElem_of_mem hl
          have hk2 : k < n := by rw [← hgl]; exact hk
          have h1 : (rowG n fr tt)[k] = ints ((if k + 1 < n then [k + 1] else []) ++ if k = fr then [tt] else []) := by
            have h2 : (rowG n fr tt).getD k [] = ints ((if k + 1 < n then [k + 1] else []) ++ if k = fr then [tt] else []) := by
              rw [HRG.out, intsL_get, rowC_get _ _ _ _ hk2]
            rw [List.getD_eq_getElem?_getD, List.getElem?_eq_getElem hk] at h2
            exact h2
          rw [h1]
          constructor
          · intro x hx
            obtain ⟨y, hy, rfl⟩ := mem_ints.1 hx
            have : y ≤ n := by
              rcases List.mem_append.1 hy with hy | hy
              · split at hy
                · simp at hy; omega
                · simp at hy
              · split at hy
                · simp at hy; omega
                · simp at hy
            omega
          · rw [ints_len, List.length_append]
            split <;> split <;> simp
        have hRW := HL2.out.rows n (fun l hl => (hrng l hl).1) (fun l hl => by have := (hrng l hl).2; omega) (by rw [hgl]; unfold maxLen; omega)
        rw [hgl] at hRW
        have HRW2 := Lib.hid hRW
        have HOF := Lib.hid (domOf_any (some ⟨w1.heap.size, 0, none⟩) n (rowG n fr tt) _ (by rw [hgl]; exact hRW) (by omega) (by omega) (fun l hl => by have := (hrng l hl).2; omega))
        rw [hgl] at HOF
        have HUB := Lib.hid (HU2.out.trans' HU5.out (fun q hq hl => by simp at hq; omega))
        clear hrng hRW hcg2 hfg
        refine HOF.out.mono ?_
        rintro e w6 ⟨tb, f, rfl, hA, hu6⟩
        have HU6 := Lib.hid (HUB.out.trans' hu6 (fun q hq hl => by simp at hq))
        have HA := Lib.hid hA
        have HEX : Hid (Exact (Rd (cleanG (rowG n fr tt))) (Ed (cleanG (rowG n fr tt))) (posn (cleanG (rowG n fr tt))) f) := by
          obtain ⟨_, _, _, _, _, _, _, _, _, _, _, _, h2, _⟩ := HA.out
          exact h2 (cleanG_ne (by rw [hgl]; omega))
        have HCN : Hid ((cleanG (rowG n fr tt)).length ≤ 1000) := by
          show _ ≤ _
          rw [cleanG_len, hgl]; omega
        clear hA hu6 HOF HUB HRW2 HL2 hgl
        go_wp2_with fail
        go_loopw [11] (fun av wr => ∃ x : Nat, x ≤ n ∧ av = .int .i64 (x : Int) ∧ Hid (Upd [] w6 wr)) (fun av _ => n - (intOf av).toNat)
        case atStart => exact ⟨0, by omega, rfl, Upd.refl _ _⟩
        case round =>
          obtain ⟨x, hx, rfl, HV⟩ := hrel
          obtain ⟨w7, rfl⟩ : ∃ w7 : World, w7 = wr := ⟨_, rfl⟩
          by_cases hxn : x < n
          · go_wp2_with fail
            go_loopw [12] (fun bv wr => ∃ b : Nat, b ≤ n ∧ bv = .int .i64 (b : Int) ∧ Hid (Upd [] w7 wr)) (fun bv _ => n - (intOf bv).toNat)
            case atStart => exact ⟨0, by omega, rfl, Upd.refl _ _⟩
            case round =>
              obtain ⟨b, hb, rfl, HX⟩ := hrel
              obtain ⟨w8, rfl⟩ : ∃ w8 : World, w8 = wr := ⟨_, rfl⟩
              by_cases hbn : b < n
              · have hab := above_any (cleanG (rowG n fr tt)) (cleanG_clean _) HCN.out _ tb f _ _ _ _ (x : Int) (b : Int) (by omega) (by omega) w8 (HA.out.g.low (S := []) (HV.out.trans HX.out) (by simp))
                have hval := rowG_above (fr := fr) (tt := tt) (by omega) HEX.out x b hxn hbn
                have hfold := abB_fold (cleanG (rowG n fr tt)) f (x : Int) (b : Int)
                rw [hfold, hval] at hab
                have HAB := Lib.hid hab
                clear hab hval hfold
                cases hle : decide (x ≤ b)
                all_goals
                  have hle2 : decide ((x : Int) ≤ (b : Int)) = decide (x ≤ b) := decide_eq_decide.2 (by omega)
                  rw [hle] at hle2 HAB
                  by_cases h1 : fr + 1 < tt
                  · have d1 : decide ((fr : Int) + 1 < (tt : Int)) = true := decide_eq_true (by omega)
                    have d1' : decide ((tt : Int) > (fr : Int) + 1) = true := decide_eq_true (by omega)
                    by_cases h2 : fr < x
                    · have d2 : decide ((fr : Int) < (x : Int)) = true := decide_eq_true (by omega)
                      have d2' : decide ((x : Int) > (fr : Int)) = true := decide_eq_true (by omega)
                      have d2n : decide (fr < x) = true := decide_eq_true h2
                      by_cases h3 : x < tt
                      · have d3 : decide ((x : Int) < (tt : Int)) = true := decide_eq_true (by omega)
                        have d3n : decide (x < tt) = true := decide_eq_true h3
                        by_cases h4 : tt ≤ b
                        · have d4 : decide ((tt : Int) ≤ (b : Int)) = true := decide_eq_true (by omega)
                          have d4' : decide ((b : Int) ≥ (tt : Int)) = true := decide_eq_true (by omega)
                          have d4n : decide (tt ≤ b) = true := decide_eq_true h4
                          rw [decide_eq_true (show fr < x ∧ x < tt ∧ tt ≤ b from ⟨h2, h3, h4⟩), Bool.not_true, Bool.and_false] at HAB
                          clear h1 h2 h3 h4
                          go_wp2_with fail
                          refine HAB.out.mono ?_
                          rintro e w9 ⟨rfl, hu9⟩
                          have HU9 := Lib.hid (HX.out.trans hu9)
                          clear hu9 HAB
                          go_wp2_with fail
                          go_roundw
                          case rel => exact ⟨b + 1, by omega, by go_num, HU9.out⟩
                          case measure => simp [intOf]; omega
                        · have d4 : decide ((tt : Int) ≤ (b : Int)) = false := decide_eq_false (by omega)
                          have d4' : decide ((b : Int) ≥ (tt : Int)) = false := decide_eq_false (by omega)
                          have d4n : decide (tt ≤ b) = false := decide_eq_false h4
                          rw [decide_eq_false (show ¬ (fr < x ∧ x < tt ∧ tt ≤ b) from fun h => h4 h.2.2), Bool.not_false, Bool.and_true] at HAB
                          clear h1 h2 h3 h4
                          go_wp2_with fail
                          refine HAB.out.mono ?_
                          rintro e w9 ⟨rfl, hu9⟩
                          have HU9 := Lib.hid (HX.out.trans hu9)
                          clear hu9 HAB
                          go_wp2_with fail
                          go_roundw
                          case rel => exact ⟨b + 1, by omega, by go_num, HU9.out⟩
                          case measure => simp [intOf]; omega
                      · have d3 : decide ((x : Int) < (tt : Int)) = false := decide_eq_false (by omega)
                        have d3n : decide (x < tt) = false := decide_eq_false h3
                        rw [decide_eq_false (show ¬ (fr < x ∧ x < tt ∧ tt ≤ b) from fun h => h3 h.2.1), Bool.not_false, Bool.and_true] at HAB
                        clear h1 h2 h3
                        go_wp2_with fail
                        refine HAB.out.mono ?_
                        rintro e w9 ⟨rfl, hu9⟩
                        have HU9 := Lib.hid (HX.out.trans hu9)
                        clear hu9 HAB
                        go_wp2_with fail
                        go_roundw
                        case rel => exact ⟨b + 1, by omega, by go_num, HU9.out⟩
                        case measure => simp [intOf]; omega
                    · have d2 : decide ((fr : Int) < (x : Int)) = false := decide_eq_false (by omega)
                      have d2' : decide ((x : Int) > (fr : Int)) = false := decide_eq_false (by omega)
                      have d2n : decide (fr < x) = false := decide_eq_false h2
                      rw [decide_eq_false (show ¬ (fr < x ∧ x < tt ∧ tt ≤ b) from fun h => h2 h.1), Bool.not_false, Bool.and_true] at HAB
                      clear h1 h2
                      go_wp2_with fail
                      refine HAB.out.mono ?_
                      rintro e w9 ⟨rfl, hu9⟩
                      have HU9 := Lib.hid (HX.out.trans hu9)
                      clear hu9 HAB
                      go_wp2_with fail
                      go_roundw
                      case rel => exact ⟨b + 1, by omega, by go_num, HU9.out⟩
                      case measure => simp [intOf]; omega
                  · have d1 : decide ((fr : Int) + 1 < (tt : Int)) = false := decide_eq_false (by omega)
                    have d1' : decide ((tt : Int) > (fr : Int) + 1) = false := decide_eq_false (by omega)
                    rw [decide_eq_false (show ¬ (fr < x ∧ x < tt ∧ tt ≤ b) from fun h => h1 (by omega)), Bool.not_false, Bool.and_true] at HAB
                    clear h1
                    go_wp2_with fail
                    refine HAB.out.mono ?_
                    rintro e w9 ⟨rfl, hu9⟩
                    have HU9 := Lib.hid (HX.out.trans hu9)
                    clear hu9 HAB
                    go_wp2_with fail
                    go_roundw
                    case rel => exact ⟨b + 1, by omega, by go_num, HU9.out⟩
                    case measure => simp [intOf]; omega
              · obtain rfl : b = n := by omega
                have HUN := Lib.hid (HV.out.trans HX.out)
                go_wp2_with fail
                go_roundw
                case rel => exact ⟨x + 1, by omega, by go_num, HUN.out⟩
                case measure => simp [intOf]; omega
          · obtain rfl : x = n := by omega
            go_wp2_with fail
            go_ret
            exact ⟨rfl, HU6.out.trans HV.out⟩

end Go.Proofs.YtjjkliifpdcliaaDoor
