/- DomTree: the law's walk. -/
import Derived.Test.YtjjkliifpdcliaaDoorDomQR
import Derived.Test.YtjjkliifpdcliaaDoorFirst6
import Derived.Test.YtjjkliifpdcliaaDoorLight6
import Derived.Test.YtjjkliifpdcliaaDoorOpenC
namespace Go.Proofs.YtjjkliifpdcliaaDoor
open Go.RowKit

theorem cntB_or (p q : Nat → Bool) (m : Nat) (h : ∀ x, ¬ (p x = true ∧ q x = true)) : cntB (fun x => p x || q x) m = cntB p m + cntB q m := by
  induction m with
  | zero => rfl
  | succ m ih =>
    show cntB _ m + _ = (cntB p m + _) + (cntB q m + _)
    rw [ih]
    have := h m
    cases hp : p m <;> cases hq : q m <;> simp_all <;> omega
theorem cntB_congr (p q : Nat → Bool) (m : Nat) (h : ∀ x, x < m → p x = q x) : cntB p m = cntB q m := by
  induction m with
  | zero => rfl
  | succ m ih =>
    show cntB p m + _ = cntB q m + _
    rw [ih (fun x hx => h x (by omega)), h m (by omega)]
theorem filter_cnt (p : Nat → Bool) (m : Nat) : ((List.range m).filter p).length = cntB p m := by
  induction m with
  | zero => rfl
  | succ m ih =>
    show _ = cntB p m + _
    rw [List.range_succ, List.filter_append, List.length_append, ih]
    cases hp : p m <;> simp [hp]

/-- The places that can be reached, but 0. -/
def rnz (c : List (List Nat)) (i : Nat) : Bool := decide (Rd c i ∧ i ≠ 0)
/-- The kids of the first m. -/
def kcnt (c : List (List Nat)) (f : Nat → Nat) (m : Nat) : Nat := cntB (fun j => rnz c j && decide (f j < m)) c.length
theorem kcnt_zero (c : List (List Nat)) (f : Nat → Nat) : kcnt c f 0 = 0 := cntB_none _ _ (fun x _ => by simp)
theorem kcnt_step (c : List (List Nat)) (f : Nat → Nat) (m : Nat) : kcnt c f (m + 1) = kcnt c f m + (kidF c f m).length := by
  unfold kcnt kidF
  rw [filter_cnt, ← cntB_or]
  · refine cntB_congr _ _ _ (fun x _ => ?_)
    unfold rnz
    by_cases h1 : Rd c x ∧ x ≠ 0
    · by_cases h2 : f x < m
      · have h3 : f x < m + 1 := by omega
        simp [h1, h2, h3]
      · by_cases h3 : f x = m
        · simp [h1, h3]
        · have h4 : ¬ f x < m + 1 := by omega
          simp [h1, h2, h3, h4]
    · have : ¬ (Rd c x ∧ x ≠ 0 ∧ f x = m) := fun h => h1 ⟨h.1, h.2.1⟩
      simp [h1, this]
  · intro x ⟨h1, h2⟩
    simp at h1 h2
    omega
theorem kcnt_all {c : List (List Nat)} (hc : Clean c) {f : Nat → Nat} (ex : Exact (Rd c) (Ed c) (posn c) f) : kcnt c f c.length = cntB (rnz c) c.length := by
  unfold kcnt
  refine cntB_congr _ _ _ (fun x _ => ?_)
  unfold rnz
  by_cases h1 : Rd c x ∧ x ≠ 0
  · have := rd_lt hc (ex.tr.up x h1.1 h1.2)
    simp [h1, this]
  · simp [h1]
theorem cntB_mono (p : Nat → Bool) (a b : Nat) (h : a ≤ b) : cntB p a ≤ cntB p b := by
  induction b with
  | zero => obtain rfl : a = 0 := by omega
            exact Nat.le_refl _
  | succ b ih =>
    by_cases e : a = b + 1
    · subst e; exact Nat.le_refl _
    · have := ih (by omega)
      show _ ≤ cntB p b + _
      omega
theorem rnz_one (c : List (List Nat)) : cntB (rnz c) 1 = 0 := by
  show 0 + _ = 0
  simp [rnz]

open Classical in
set_option maxRecDepth 100000 in
set_option maxHeartbeats 4000000 in
theorem treeW_any (v : Value) (g : List (List Int)) (w : World) (h : RowsAt w v g) (hcap : CapOk v) (hT : TzAt w) :
    Calls Tryd.prog 6 #[v] w fun e w' => e = .returned (.bool true) ∧ Upd [] w w' := by
  have HH := Lib.hid h
  have HF := Lib.hid (first6_any w hT)
  obtain ⟨a, cap, rfl, _, _⟩ := id h
  have hcp := hcap a g.length cap rfl
  have HCAP := Lib.hid hcp
  clear h hcap hT hcp
  go_enter Tryd.func6, Tryd.ntmps6
  go_wp2_with fail
  refine HF.out.mono ?_
  rintro e w1 ⟨rfl, hu1⟩
  have HU1 := Lib.hid hu1
  have HLI := Lib.hid (light6_any _ g w1 (HH.out.upd hu1))
  clear hu1 HF
  go_wp2_with fail
  refine HLI.out.mono ?_
  rintro e w2 ⟨b, rfl, hb, hu2⟩
  have HU2 := Lib.hid (HU1.out.trans hu2)
  clear hu2 HLI HU1
  cases b with
  | false =>
    go_wp2_with fail
    go_ret
    exact ⟨rfl, HU2.out⟩
  | true =>
    obtain ⟨hn, hrb⟩ := hb rfl
    have HRB := Lib.hid hrb
    clear hb hrb
    by_cases hg0 : g.length = 0
    · have d0 : ((g.length : Int) == 0) = true := by rw [beq_iff_eq]; omega
      go_wp2_with fail
      go_ret
      exact ⟨rfl, HU2.out⟩
    · have d0 : ((g.length : Int) == 0) = false := by rw [beq_eq_false_iff_ne]; omega
      have hg1 : 0 < g.length := by omega
      clear hg0
      have HOF := Lib.hid (domOf_any a cap g w2 (HH.out.upd HU2.out) HCAP.out (by omega) (fun l hl => by have := HRB.out l hl; omega))
      go_wp2_with fail
      refine HOF.out.mono ?_
      rintro e w3 ⟨tb, f, rfl, hA, hu3⟩
      have HU3 := Lib.hid (HU2.out.trans hu3)
      have HA := Lib.hid hA
      have HWO := Lib.hid (without_any _ g w3 (HH.out.upd HU3.out) (by omega) (fun l hl => by have := HRB.out l hl; omega) (-1) g.length (by omega) (fun x hx => by omega))
      clear hA hu3 HOF
      go_wp2_with fail
      refine HWO.out.mono ?_
      rintro e w4 ⟨rb, rfl, hrb, _, hu4⟩
      have HU4 := Lib.hid (HU3.out.trans hu4)
      have HTR : Hid (∀ W, Upd [] w4 W → TreeG W w2.heap.size tb (cleanG g) f (.int .u32 0) (.int .i32 0) (.int .u32 0) (.slice none 0 0)) := fun W hW => (HA.out.g.low (S := []) hu4 (by simp)).low (S := []) hW (by simp)
      have hex : Exact (Rd (cleanG g)) (Ed (cleanG g)) (posn (cleanG g)) f := by
        obtain ⟨_, _, _, _, _, _, _, _, _, _, _, _, h2, _⟩ := HA.out
        exact h2 (cleanG_ne hg1)
      have HEX := Lib.hid hex
      have HCL := Lib.hid (cleanG_clean g)
      have hcl := cleanG_len g
      have HRE : Hid (∀ W, Upd [] w4 W → ∀ x, x < g.length → W.cell? ⟨rb, x, none⟩ = some (.bool (decide (Rd (cleanG g) x)))) := fun W hW x hx => by
        rw [cell_of (hW.heap hrb (by simp)), bcells_get _ _ (by rw [avL_len]; exact hx), avL_get g _ _ hx]
        have e : decide (Av (Ed (cleanG g)) g.length x) = decide (Rd (cleanG g) x) := decide_eq_decide.2 (reach_avG hg1 x).symm
        rw [e]
      have HNE := Lib.hid (cleanG_ne hg1)
      clear hrb hu4 HWO HA hex
      generalize hcc : cleanG g = c at HTR HEX HCL hcl HRE HNE
      have HCLN := Lib.hid hcl
      clear hcc hcl
      go_wp2_with fail
      go_loopw [6, 7] (fun nv iv wr => ∃ i : Nat, i ≤ g.length ∧ iv = .int .i64 (i : Int) ∧ nv = .int .i64 (kcnt c f i : Int) ∧ Hid (Upd [] w4 wr)) (fun _ iv _ => g.length - (intOf iv).toNat)
      case atStart => exact ⟨0, by omega, rfl, by rw [kcnt_zero]; rfl, Upd.refl _ _⟩
      case round =>
        obtain ⟨i, hi, rfl, rfl, HU⟩ := hrel
        obtain ⟨wo, rfl⟩ : ∃ wo : World, wo = wr := ⟨_, rfl⟩
        have hkl : kcnt c f i ≤ 40 := by
          have := cntB_le (fun j => rnz c j && decide (f j < i)) c.length
          have h2 := HCLN.out
          show cntB _ _ ≤ _
          omega
        by_cases hlt : i < g.length
        · have HKI := Lib.hid (kids_any c (by rw [HCLN.out]; omega) _ tb f _ _ _ _ (i : Int) (by omega) wo (HTR.out wo HU.out))
          have HKS := Lib.hid (kcnt_step c f i)
          go_wp2_with fail
          refine HKI.out.mono ?_
          rintro e w5 ⟨u, rfl, hO, hu5⟩
          have ekv : kidV c f (i : Int) = ints (kidF c f i) := by
            unfold kidV
            rw [if_pos ⟨by omega, by rw [HCLN.out]; omega⟩, Int.toNat_natCast]
          rw [ekv] at hO
          have HO := Lib.hid hO
          have HU5 := Lib.hid (HU.out.trans hu5)
          obtain ⟨up, uc, rfl⟩ := hO.shape
          rw [ints_len]
          have hkb : kcnt c f i + (kidF c f i).length ≤ 40 := by
            rw [← HKS.out]
            have := cntB_le (fun j => rnz c j && decide (f j < i + 1)) c.length
            have h2 := HCLN.out
            show cntB _ _ ≤ _
            omega
          have HKM : Hid (∀ q, q ∈ kidF c f i → q < g.length ∧ Rd c q ∧ q ≠ 0 ∧ f q = i) := fun q hq => by
            unfold kidF at hq
            rw [List.mem_filter, List.mem_range, decide_eq_true_eq, HCLN.out] at hq
            exact hq
          have HKP : Hid ((kidF c f i).Pairwise (· < ·)) := by
            unfold kidF
            exact List.pairwise_lt_range.filter _
          clear hO hu5 HKI ekv
          generalize kidF c f i = kl at HO HKS hkb HKM HKP ⊢
          generalize kcnt c f i = kc at hkl hkb HKS
          rw [ints_len] at HO
          go_wp2_with fail
          go_loopw [6, 9] (fun nv jv wr => ∃ j : Nat, j ≤ kl.length ∧ jv = .int .i64 (j : Int) ∧ nv = .int .i64 ((kc + j : Nat) : Int) ∧ Hid (Upd [] w5 wr)) (fun _ jv _ => kl.length - (intOf jv).toNat)
          case atStart => exact ⟨0, by omega, rfl, rfl, Upd.refl _ _⟩
          case round =>
            obtain ⟨j, hj, rfl, rfl, HV⟩ := hrel
            obtain ⟨wq, rfl⟩ : ∃ wq : World, wq = wr := ⟨_, rfl⟩
            by_cases hjl : j < kl.length
            · obtain ⟨gk, ck, e, _, _, hcj⟩ := (HO.out.upd HV.out (by simp)).nth j (by rw [ints_len]; exact hjl)
              rw [ints_len] at e
              injection e with e e2 e3
              subst e
              subst e3
              rw [ints_get kl j hjl] at hcj
              have hqm : kl.getD j 0 ∈ kl := by
                rw [List.getD_eq_getElem?_getD, List.getElem?_eq_getElem hjl]
                exact List.getElem_mem hjl
              obtain ⟨k1, k2, k3, k4⟩ := HKM.out _ hqm
              have hpw : ∀ j', j' < j → kl.getD j' 0 < kl.getD j 0 := fun j' hj' => by
                have := List.pairwise_iff_getElem.1 HKP.out j' j (by omega) hjl hj'
                rw [List.getD_eq_getElem?_getD, List.getElem?_eq_getElem (by omega), List.getD_eq_getElem?_getD, List.getElem?_eq_getElem hjl]
                exact this
              have HPW := Lib.hid hpw
              have hTq := HTR.out wq (HU5.out.trans HV.out)
              clear hqm hpw
              generalize hqq : kl.getD j 0 = q at hcj k1 k2 k3 k4 HPW
              obtain ⟨par, hg⟩ := dfs_dg HCL.out HNE.out
              have hiR : Rd c i := by rw [← k4]; exact HEX.out.tr.up q k2 k3
              have HIDQ : Hid (∀ n, Calls Tryd.prog 16 #[.pointer (some ⟨tb, 0, none⟩), .int .i64 (q : Int)] (wq.drewN n) fun e w' => e = .returned (.int .i64 (i : Int)) ∧ ∃ m, w' = wq.drewN m) := fun n => by
                have h1 := idom_q c HCL.out (by rw [HCLN.out]; omega) _ tb f _ _ _ _ wq hTq (q : Int) n (by omega)
                have e : idomV c f (q : Int) = (i : Int) := by
                  unfold idomV
                  rw [if_pos ⟨⟨by omega, by rw [Int.toNat_natCast]; exact k2⟩, by omega⟩, Int.toNat_natCast, k4]
                rwa [e] at h1
              have HABQ : Hid (∀ n, Calls Tryd.prog 12 #[.pointer (some ⟨tb, 0, none⟩), .int .i64 (i : Int), .int .i64 (q : Int)] (wq.drewN n) fun e w' => e = .returned (.bool true) ∧ ∃ m, w' = wq.drewN m) := fun n => by
                have h1 := above_q c HCL.out (by rw [HCLN.out]; omega) _ tb f _ _ _ _ wq hTq (i : Int) (q : Int) n (by omega) (by omega)
                have e : abB c f (i : Int) (q : Int) = true := by
                  unfold abB
                  refine decide_eq_true ⟨⟨by omega, by rw [Int.toNat_natCast]; exact hiR⟩, ⟨by omega, by rw [Int.toNat_natCast]; exact k2⟩, ?_⟩
                  rw [Int.toNat_natCast, Int.toNat_natCast]
                  exact .up q k3 (by rw [k4]; exact .refl)
                rwa [e] at h1
              have HDPQ : Hid (∀ (x : Int) n, (-9223372036854775808 ≤ x ∧ x ≤ 9223372036854775807) → Calls Tryd.prog 17 #[.pointer (some ⟨tb, 0, none⟩), .int .i64 x] (wq.drewN n) fun e w' => e = .returned (.int .i64 (depV c f x)) ∧ ∃ m, w' = wq.drewN m) := fun x n hx => depth_q c HCL.out (by rw [HCLN.out]; omega) _ tb f _ _ _ _ wq hTq x n hx
              have hdv : ∀ x : Nat, Rd c x → depV c f (x : Int) = (dep c f x : Int) := fun x hx => by
                unfold depV
                rw [if_pos (show thereP c (x : Int) from ⟨by omega, by rw [Int.toNat_natCast]; exact hx⟩), Int.toNat_natCast]
              have hw1 : IntKind.i64.wrap (depV c f (i : Int) + 1) = depV c f (q : Int) := by
                rw [hdv i hiR, hdv q k2, dep_step hg HEX.out.tr k2 k3, k4]
                have h1 := dep_le c f i
                have h2 := List.idxOf_lt_length_iff.2 hiR
                have h3 := (rpo_facts HCL.out HNE.out).2.2.2.1
                have h4 := HCLN.out
                have h5 : posn c i = (rpo c).idxOf i := rfl
                rw [IntWalk.i64_in _ (by omega)]
                omega
              clear hdv hTq k4 hg hiR
              have hii : -9223372036854775808 ≤ (i : Int) ∧ (i : Int) ≤ 9223372036854775807 := by omega
              have hqi : -9223372036854775808 ≤ (q : Int) ∧ (q : Int) ≤ 9223372036854775807 := by omega
              by_cases hj0 : j = 0
              · subst hj0
                go_wp2_with fail
                go_quiet ((first | (go_at_call 16; exact HIDQ.out _) | (go_at_call 12; exact HABQ.out _) | (go_at_call 17; exact HDPQ.out _ _ (by assumption))))
                go_wp2_with fail
                go_roundw
                case rel => exact ⟨1, by omega, by go_num, by go_num, HV.out.drewN _⟩
                case measure => simp [intOf]; omega
              · obtain ⟨m, rfl⟩ : ∃ m, j = m + 1 := ⟨j - 1, by omega⟩
                have d1 : decide (0 < ((m + 1 : Nat) : Int)) = true := decide_eq_true (by omega)
                have d2 : decide (0 < (m : Int) + 1) = true := decide_eq_true (by omega)
                have d2' : decide ((m : Int) + 1 > 0) = true := decide_eq_true (by omega)
                have hpw2 := HPW.out m (by omega)
                obtain ⟨gk2, ck2, e, _, _, hcm⟩ := (HO.out.upd HV.out (by simp)).nth m (by rw [ints_len]; omega)
                rw [ints_len] at e
                injection e with e _ e3
                subst e3
                injection e with e
                injection e with e _
                subst e
                rw [ints_get kl m (by omega)] at hcm
                generalize kl.getD m 0 = pq at hcm hpw2
                have d3 : decide ((q : Int) ≤ (pq : Int)) = false := decide_eq_false (by omega)
                have d3' : decide ((pq : Int) ≥ (q : Int)) = false := decide_eq_false (by omega)
                have d3n : decide (q ≤ pq) = false := decide_eq_false (by omega)
                have hw2 : IntKind.i64.wrap ((m : Int) + 1 - 1) = (m : Int) := by rw [IntWalk.i64_in _ (by omega)]; omega
                have hw3 : (m : Int) + 1 - 1 = (m : Int) := by omega
                have hw4 : (0 : Int) ≤ (m : Int) := by omega
                have hml : (m : Int) < (kl.length : Int) := by omega
                have hml2 : (m : Int) + 1 < (kl.length : Int) := by omega
                clear hj0 hpw2 k1 k3
                go_wp2_with fail
                go_quiet ((first | (go_at_call 16; exact HIDQ.out _) | (go_at_call 12; exact HABQ.out _) | (go_at_call 17; exact HDPQ.out _ _ (by assumption))))
                go_wp2_with fail
                go_roundw
                case rel => exact ⟨m + 2, by omega, by go_num, by go_num, HV.out.drewN _⟩
                case measure => simp [intOf]; omega
            · obtain rfl : j = kl.length := by omega
              have hU6 := HU5.out.trans HV.out
              have hre := HRE.out wq hU6 i hlt
              have HABZ : Hid (∀ n, Calls Tryd.prog 12 #[.pointer (some ⟨tb, 0, none⟩), .int .i64 0, .int .i64 (i : Int)] (wq.drewN n) fun e w' => e = .returned (.bool (decide (Rd c i))) ∧ ∃ m, w' = wq.drewN m) := fun n => by
                have h1 := above_q c HCL.out (by rw [HCLN.out]; omega) _ tb f _ _ _ _ wq (HTR.out wq hU6) 0 (i : Int) n (by omega) (by omega)
                have e : abB c f 0 (i : Int) = decide (Rd c i) := by
                  unfold abB
                  rw [decide_eq_decide]
                  constructor
                  · intro hh
                    have := hh.2.1.2
                    rwa [Int.toNat_natCast] at this
                  · intro hh
                    obtain ⟨par, hg⟩ := dfs_dg HCL.out HNE.out
                    refine ⟨⟨by omega, hg.r0⟩, ⟨by omega, by rw [Int.toNat_natCast]; exact hh⟩, ?_⟩
                    rw [Int.toNat_natCast]
                    exact anc_zero HEX.out.tr _ i rfl hh
                rwa [e] at h1
              have HU6 := Lib.hid hU6
              clear hU6
              generalize decide (Rd c i) = bv at hre HABZ
              have hbb : (bv != bv) = false := by cases bv <;> rfl
              go_wp2_with fail
              go_quiet ((go_at_call 12; exact HABZ.out _))
              go_wp2_with fail
              go_roundw
              case rel => exact ⟨i + 1, by omega, by go_num, by rw [HKS.out], HU6.out.drewN _⟩
              case measure => simp [intOf]; omega
        · obtain rfl : i = g.length := by omega
          have hka := kcnt_all HCL.out HEX.out
          rw [HCLN.out] at hka
          rw [hka] at hkl ⊢
          have HP1 := Lib.hid (rnz_one c)
          have HPM := Lib.hid (cntB_mono (rnz c))
          clear hka
          go_wp2_with fail
          go_loopw [6, 10] (fun nv iv wr => ∃ i : Nat, 1 ≤ i ∧ i ≤ g.length ∧ iv = .int .i64 (i : Int) ∧ nv = .int .i64 ((cntB (rnz c) g.length - cntB (rnz c) i : Nat) : Int) ∧ wr = wo) (fun _ iv _ => g.length - (intOf iv).toNat)
          case atStart => exact ⟨1, by omega, by omega, rfl, by rw [HP1.out, Nat.sub_zero], rfl⟩
          case round =>
            obtain ⟨i, hi1, hi, rfl, rfl, e⟩ := hrel
            subst e
            have hmo := HPM.out i g.length hi
            by_cases hlt : i < g.length
            · have hre := HRE.out wr HU.out i hlt
              have HPS : Hid (cntB (rnz c) (i + 1) = cntB (rnz c) i + if rnz c i then 1 else 0) := (rfl : _ = _)
              have hmo2 := HPM.out (i + 1) g.length hlt
              by_cases hr : Rd c i
              · rw [decide_eq_true hr] at hre
                have h1 : rnz c i = true := decide_eq_true ⟨hr, by omega⟩
                rw [h1, if_pos rfl] at HPS
                have hps := HPS.out
                rw [hps] at hmo2
                have HEQ : Hid (((cntB (rnz c) g.length - cntB (rnz c) (i + 1) : Nat) : Int) = ((cntB (rnz c) g.length - cntB (rnz c) i : Nat) : Int) - 1) := by show _ = _; omega
                have hq1 : cntB (rnz c) g.length - cntB (rnz c) i ≤ 40 ∧ 1 ≤ cntB (rnz c) g.length - cntB (rnz c) i := by omega
                generalize cntB (rnz c) g.length - cntB (rnz c) i = q at HEQ hq1
                clear hps h1 HPS hr hmo hmo2
                go_wp2_with fail
                go_roundw
                case rel => exact ⟨i + 1, by omega, by omega, by go_num, by rw [HEQ.out], by trivial⟩
                case measure => simp [intOf]; omega
              · rw [decide_eq_false hr] at hre
                have h1 : rnz c i = false := decide_eq_false (fun h => hr h.1)
                rw [h1] at HPS
                have HEQ : Hid (cntB (rnz c) g.length - cntB (rnz c) (i + 1) = cntB (rnz c) g.length - cntB (rnz c) i) := by
                  show _ = _
                  rw [HPS.out]; simp
                clear h1 HPS hr
                go_wp2_with fail
                go_roundw
                case rel => exact ⟨i + 1, by omega, by omega, by go_num, by rw [HEQ.out], by trivial⟩
                case measure => simp [intOf]; omega
            · obtain rfl : i = g.length := by omega
              rw [Nat.sub_self]
              have HI0 := Lib.hid (idom_any c HCL.out (by rw [HCLN.out]; omega) _ tb f _ _ _ _ 0 (by omega) wr (HTR.out wr HU.out))
              have HD0 := Lib.hid (depth_any c HCL.out (by rw [HCLN.out]; omega) _ tb f _ _ _ _ 0 (by omega) wr (HTR.out wr HU.out))
              have e1 : idomV c f 0 = -1 := if_neg (fun h => h.2 rfl)
              have e2 : depV c f 0 = 0 := by
                unfold depV
                split
                · show ((dep c f 0 : Nat) : Int) = 0
                  rw [dep_zero]; rfl
                · rfl
              rw [e1] at HI0
              rw [e2] at HD0
              clear e1 e2
              go_wp2_with fail
              refine HI0.out.mono ?_
              rintro e w' ⟨rfl, rfl⟩
              go_wp2_with fail
              refine HD0.out.mono ?_
              rintro e w' ⟨rfl, rfl⟩
              go_wp2_with fail
              go_ret
              exact ⟨rfl, HU4.out.trans HU.out⟩

end Go.Proofs.YtjjkliifpdcliaaDoor
