/- FlowCover: the law's walk. -/
import Derived.Test.YtagjchgpcekmnaaDoorFirst5
import Derived.Test.YtagjchgpcekmnaaDoorMay3
import Derived.Test.YtagjchgpcekmnaaDoorLightP
import Derived.Test.YtagjchgpcekmnaaDoorAmong
import Derived.Test.YtagjchgpcekmnaaDoorCovL
import Derived.Deep.QuietTactic
import Derived.BigQuiet
namespace Go.Proofs.YtagjchgpcekmnaaDoor
open Go.RowKit

theorem among_q (v : Value) (b : Nat) (xs : List Int) (x : Int) (w : World) (n : Nat) (h : IntsV w v b xs) (hn : xs.length ≤ 1000000) :
    Calls Tryd.prog 15 #[v, .int .i64 x] (w.drewN n) fun e w'' => e = .returned (.bool (decide (x ∈ xs))) ∧ ∃ m, w'' = w.drewN m :=
  (among_any v b xs x (w.drewN n) (h.upd ((Upd.refl [] w).drewN n) (Or.inr (by simp))) hn).mono fun _ _ ⟨he, hm⟩ => ⟨he, n, hm.symm⟩

/-- Of a program that may be: a method's code. -/
theorem Prg.Ok.code {p : Prg} (h : p.Ok) (j : Nat) (hj : j < p.ms.length) : 1 ≤ (p.ms.getD j default).code.length ∧ (p.ms.getD j default).code.length ≤ 120 ∧
    ∀ q, q < (p.ms.getD j default).code.length → (((p.ms.getD j default).code.getD q default).op = 22 ∨ ((p.ms.getD j default).code.getD q default).op = 23) →
      0 ≤ ((p.ms.getD j default).code.getD q default).a ∧ ((p.ms.getD j default).code.getD q default).a < ((p.ms.getD j default).code.length : Int) := by
  have h1 := h.meth j hj
  have h2 := h.ins j hj
  generalize p.ms.getD j default = m at h1 h2
  have h3 : 1 ≤ m.code.length ∧ m.code.length ≤ 120 := by
    unfold headCode at h1
    split at h1
    · cases h1
    · omega
  refine ⟨h3.1, h3.2, fun q hq hop => ?_⟩
  have h4 := h2 q hq
  generalize m.code.getD q default = x at h4 hop
  unfold insCode at h4
  split at h4
  · cases h4
  · split at h4
    · cases h4
    · split at h4
      · cases h4
      · split at h4
        · cases h4
        · split at h4
          · cases h4
          · split at h4
            · cases h4
            · rename_i h5
              omega

/-- Where the i-th block begins; behind the last: the end. -/
def bat (xs : List Ins) (i : Nat) : Nat := if i < (begL xs).length then bfr xs i else xs.length
theorem bat_succ (xs : List Ins) (i : Nat) : bto xs i = bat xs (i + 1) := by
  unfold bat
  by_cases h : i + 1 < (begL xs).length
  · rw [if_pos h, bto_eq xs i h]
  · rw [if_neg h, bto_last xs i (by omega)]

set_option maxRecDepth 100000 in
set_option maxHeartbeats 8000000 in
theorem coverW_any (p : Prg) (cv mv : Value) (w : World) (hc : ClassAt w cv p.cs) (hm : MethsAt w mv p.ms) (hT : TzAt w) :
    Calls Tryd.prog 4 #[.agg #[cv, mv]] w fun e w' => e = .returned (.bool true) ∧ Upd [] w w' := by
  have hcs := hc
  have hms := hm
  obtain ⟨cp, cc, rfl, _, _, hccm, _⟩ := hcs
  obtain ⟨mp, mc, rfl, hml, hmm, hmx⟩ := hms
  unfold maxLen at hmm hccm
  have HMX := Lib.hid hmx
  have HT := Lib.hid hT
  clear hmx hT
  have hUA := (Upd.refl [] w).alloc (.cells #[.slice cp p.cs.length cc, .slice mp p.ms.length mc] 25)
  have hcA := hc.upd hUA
  have hmA := hm.upd hUA
  have hbox := heap_alloc_new w (.cells #[.slice cp p.cs.length cc, .slice mp p.ms.length mc] 25)
  have HUA := Lib.hid hUA
  clear hc hm hUA
  have hfc := fault_code
  go_enter Tryd.func4, Tryd.ntmps4
  go_wp2_with fail
  refine (first5_any _ (HT.out.upd HUA.out (by simp))).mono ?_
  rintro e w1 ⟨rfl, hu1⟩
  have hc1 := hcA.upd hu1
  have hm1 := hmA.upd hu1
  have hb1 := hu1.heap hbox (by simp)
  have HU1 := Lib.hid (HUA.out.trans hu1)
  clear hcA hmA hbox HUA hu1
  have hb10 := cell_of hb1 0
  have hb11 := cell_of hb1 1
  go_wp2_with fail
  refine (light_any p _ _ _ hc1 hm1).mono ?_
  rintro e w2 ⟨⟨b, rfl⟩, hu2⟩
  have hc2 := hc1.upd hu2
  have hm2 := hm1.upd hu2
  have hb2 := hu2.heap hb1 (by simp)
  have HU2 := Lib.hid (HU1.out.trans hu2)
  clear hc1 hm1 hb10 hb11 hb1 HU1 hu2
  have hb20 := cell_of hb2 0
  have hb21 := cell_of hb2 1
  cases b with
  | false =>
    go_wp2_with fail
    go_ret
    exact ⟨rfl, HU2.out⟩
  | true =>
    go_wp2_with fail
    refine (may_any p _ _ _ hc2 hm2).mono ?_
    rintro e w3 ⟨c, s, b, at_, rfl, hia, hmay, hu3⟩
    obtain ⟨sp, sc, rfl⟩ := hia.form
    clear hia
    have hb3 := hu3.heap hb2 (by simp)
    have HU3 := Lib.hid (HU2.out.trans hu3)
    clear hc2 hm2 hb20 hb21 hb2 HU2 hu3
    have HB3 := Lib.hid hb3
    clear hb3
    by_cases hz : c = 0
    · subst hz
      have HOK := Lib.hid hmay.ok
      have hmany := HOK.out.many
      clear hmay
      go_wp2_with fail
      go_loopw [4] (fun iv wr => ∃ i : Nat, i ≤ p.ms.length ∧ iv = .int .i64 i ∧ Hid (Upd [] w3 wr)) (fun iv _ => p.ms.length - (intOf iv).toNat)
      case atStart => exact ⟨0, by omega, rfl, Upd.refl _ _⟩
      case round =>
        obtain ⟨i, hi, rfl, HU⟩ := hrel
        obtain ⟨wo, rfl⟩ : ∃ wo : World, wo = wr := ⟨_, rfl⟩
        have hbo := HU.out.heap HB3.out (by simp)
        have hbo0 := cell_of hbo 0
        have hbo1 := cell_of hbo 1
        clear hbo
        by_cases hlt : i < p.ms.length
        · obtain ⟨b, o, rfl, _, hme0⟩ := HMX.out i hlt
          obtain ⟨hk1, hk2, hk3⟩ := HOK.out.code i hlt
          have HK3 := Lib.hid hk3
          obtain ⟨hm0, hm1, hm2, kv, hm3, hcode⟩ := hme0
          have hUo := HU3.out.trans HU.out
          have hn0 := hUo.cell hm0 (by simp)
          have hn1 := hUo.cell hm1 (by simp)
          have hn2 := hUo.cell hm2 (by simp)
          have hn3 := hUo.cell hm3 (by simp)
          have HCODE := Lib.hid (hcode.upd hUo)
          obtain ⟨ka, kc, rfl, _, hkm, hkx⟩ := hcode
          unfold maxLen at hkm
          have HKX := Lib.hid hkx
          have HUo := Lib.hid hUo
          clear hm0 hm1 hm2 hm3 hkx hk3 hUo
          generalize (p.ms.getD i default).params = sp1 at hn0
          generalize (p.ms.getD i default).locals = sl1 at hn1
          generalize (p.ms.getD i default).ret = sr1 at hn2
          generalize (p.ms.getD i default).code = xs at hn3 HCODE HKX HK3 hk1 hk2 hkm
          go_wp2_with fail
          refine (of_any _ _ _ _ xs _ HCODE.out (by omega) hk1 (HT.out.upd HUo.out (by simp)) (fun j hj hop => (HK3.out j hj hop).1)).mono ?_
          rintro e wz ⟨G, B, gb, vs, capo, rfl, hC, hG, hUz⟩
          have HC := Lib.hid hC
          have HUz := Lib.hid (HU.out.trans hUz)
          have HUzz := Lib.hid (HUo.out.trans hUz)
          have hpl : (begL xs).length ≤ xs.length := by
            have := List.length_filter_le (begU xs xs.length) (List.range xs.length)
            rw [List.length_range] at this
            exact this
          have hp0 := begL_zero xs hk1
          clear hC hUz hbo0 hbo1 hn0 hn1 hn2 hn3 HCODE HUo
          have HFR : Hid (∀ wr, Upd [] wz wr → ∀ q, q < (begL xs).length → wr.cell? ⟨gb, q * 4, none⟩ = some (.int .i64 ((bfr xs q : Nat) : Int))) := fun wr hur q hq => hur.cell (HC.out.fr q hq) (by simp)
          have HTO : Hid (∀ wr, Upd [] wz wr → ∀ q, q < (begL xs).length → wr.cell? ⟨gb, q * 4 + 1, none⟩ = some (.int .i64 ((bto xs q : Nat) : Int))) := fun wr hur q hq => hur.cell (HC.out.to q hq) (by simp)
          have HOP : Hid (∀ wr, Upd [] wz wr → ∀ q, q < xs.length → ∃ b2 o2, ka = some ⟨b2, o2, none⟩ ∧ wr.cell? ⟨b2, o2 + q * 4, none⟩ = some (.int .i64 (xs.getD q default).op) ∧ wr.cell? ⟨b2, o2 + q * 4 + 1, none⟩ = some (.int .i64 (xs.getD q default).a)) := fun wr hur q hq => by
            obtain ⟨b2, o2, e, _, h1, h2, _, _⟩ := HKX.out q hq
            have hh := HUzz.out.trans hur
            exact ⟨b2, o2, e, hh.cell h1 (by simp), hh.cell h2 (by simp)⟩
          have HROW : Hid (∀ wr, Upd [] wz wr → ∀ q, q < (begL xs).length → ∃ pv cv b, wr.cell? ⟨gb, q * 4 + 2, none⟩ = some (.slice pv ((est xs (begL xs).length).getD (2 * q) []).length cv) ∧ IntsV wr (.slice pv ((est xs (begL xs).length).getD (2 * q) []).length cv) b ((est xs (begL xs).length).getD (2 * q) [])) := fun wr hur q hq => by
            have h1 := HC.out.row q 0 hq (by omega)
            have h2 := HC.out.own (2 * q) (by rw [HC.out.two]; omega)
            obtain ⟨pv, cv, hv⟩ := h2.shape
            obtain ⟨b, hib, _⟩ := h2.ints
            have e : vs.getD (2 * q + 0) undef = vs.getD (2 * q) undef := rfl
            rw [e, hv] at h1
            rw [hv] at hib
            exact ⟨pv, cv, b, hur.cell h1 (by simp), hib.upd hur (Or.inr (by simp))⟩
          have HRM := Lib.hid (rmax_est xs (begL xs).length)
          have HBB := Lib.hid (fun q hq => bfr_bto xs q hq)
          have HMID := Lib.hid (fun i pc h h1 h2 => cov_mid xs i pc h h1 h2)
          have HJMP := Lib.hid (fun pc h hop a ha hn => cov_jump xs pc h hop a ha hn)
          have HSUC := Lib.hid (fun i k pc h hk h1 h2 hop ha => cov_succ xs i k pc h hk h1 h2 hop ha)
          have HBS := Lib.hid (fun q => bat_succ xs q)
          have HB0 : Hid (bat xs 0 = 0) := by show _ = _; unfold bat; rw [if_pos hp0.2]; exact hp0.1
          have HBF : Hid (∀ q, q < (begL xs).length → bat xs q = bfr xs q) := fun q hq => by unfold bat; rw [if_pos hq]
          have HBE : Hid (bat xs (begL xs).length = xs.length) := by show _ = _; unfold bat; rw [if_neg (Nat.lt_irrefl _)]
          have hpl0 := hp0.2
          clear hp0 HC HKX HUzz
          generalize hL : (begL xs).length = L at hpl hpl0 HFR HTO HROW HRM HBB HMID HJMP HSUC HBF HBE ⊢
          generalize hE : est xs L = rows at HROW HRM HSUC
          clear hL hE
          go_wp2_with fail
          go_loopw [7, 8] (fun av qv wr => ∃ q : Nat, q ≤ L ∧ qv = .int .i64 q ∧ av = .int .i64 ((bat xs q : Nat) : Int) ∧ Hid (Upd [] wz wr)) (fun _ qv _ => L - (intOf qv).toNat)
          case atStart => exact ⟨0, by omega, rfl, by rw [HB0.out]; rfl, Upd.refl _ _⟩
          case round =>
            clear HU
            obtain ⟨q, hq, rfl, rfl, HU⟩ := hrel
            obtain ⟨wq, rfl⟩ : ∃ wq : World, wq = wr := ⟨_, rfl⟩
            by_cases hql : q < L
            · have hfr := HFR.out wq HU.out q hql
              have hto := HTO.out wq HU.out q hql
              have hbb := HBB.out q hql
              have HMQ := Lib.hid (fun pc h1 h2 => HMID.out q pc hql h1 h2)
              have HSQ := Lib.hid (fun k pc hk h1 h2 hop ha => HSUC.out q k pc hql hk h1 h2 hop ha)
              have HFQ : Hid (∀ wr, Upd [] wz wr → wr.cell? ⟨gb, q * 4, none⟩ = some (.int .i64 ((bfr xs q : Nat) : Int))) := fun wr hur => HFR.out wr hur q hql
              have HTQ : Hid (∀ wr, Upd [] wz wr → wr.cell? ⟨gb, q * 4 + 1, none⟩ = some (.int .i64 ((bto xs q : Nat) : Int))) := fun wr hur => HTO.out wr hur q hql
              have HBQ := HBS.out q
              have HBQ := Lib.hid HBQ
              have HRQ : Hid (∀ wr, Upd [] wz wr → ∃ pv cv b, wr.cell? ⟨gb, q * 4 + 2, none⟩ = some (.slice pv (rows.getD (2 * q) []).length cv) ∧ IntsV wr (.slice pv (rows.getD (2 * q) []).length cv) b (rows.getD (2 * q) [])) := fun wr hur => HROW.out wr hur q hql
              have hrl := HRM.out (2 * q)
              rw [HBF.out q hql]
              generalize rows.getD (2 * q) [] = row at HRQ HSQ hrl
              generalize bfr xs q = f at hfr hbb HMQ HSQ HFQ ⊢
              generalize bto xs q = t at hto hbb HMQ HSQ HTQ HBQ ⊢
              have d1 : decide ((t : Int) ≤ (f : Int)) = false := decide_eq_false (by omega)
              have d1' : decide (t ≤ f) = false := decide_eq_false (by omega)
              have d2 : decide ((t : Int) > (xs.length : Int)) = false := decide_eq_false (by omega)
              have d2' : decide ((xs.length : Int) < (t : Int)) = false := decide_eq_false (by omega)
              have d2'' : decide (xs.length < t) = false := decide_eq_false (by omega)
              have e2 : IntKind.i64.wrap ((t : Int) - 1) = (t : Int) - 1 := IntWalk.i64_in _ (by omega)
              go_wp2_with fail
              go_loopw [9] (fun pv wr => ∃ pc : Nat, f ≤ pc ∧ pc ≤ t ∧ pv = .int .i64 pc ∧ Hid (Upd [] wz wr)) (fun pv _ => t - (intOf pv).toNat)
              case atStart => exact ⟨f, by omega, by omega, rfl, HU⟩
              case round =>
                clear hfr hto HU
                obtain ⟨pc, hfp, hpt, rfl, HU⟩ := hrel
                obtain ⟨wk, rfl⟩ : ∃ wk : World, wk = wr := ⟨_, rfl⟩
                have hto := HTQ.out wk HU.out
                by_cases hpl2 : pc < t
                · obtain ⟨b2, o2, rfl, hop, hia⟩ := HOP.out wk HU.out pc (by omega)
                  have HMP := Lib.hid (fun h2 => HMQ.out pc hfp h2)
                  have HKP := Lib.hid (HK3.out pc (by omega))
                  have HJP := Lib.hid (HJMP.out pc (by omega))
                  have HSP := Lib.hid (fun k hk => HSQ.out k pc hk hfp hpl2)
                  have HIA : Hid (∀ wr, Upd [] wz wr → wr.cell? ⟨b2, o2 + pc * 4 + 1, none⟩ = some (.int .i64 (xs.getD pc default).a)) := fun wr hur => by
                    obtain ⟨b3, o3, e, _, h2⟩ := HOP.out wr hur pc (by omega)
                    injection e with e
                    injection e with e4 e5
                    subst e4; subst e5
                    exact h2
                  generalize (xs.getD pc default).op = op at hop HMP HKP HJP HSP
                  generalize (xs.getD pc default).a = aa at hia HKP HJP HSP HIA
                  by_cases hj : op = 22 ∨ op = 23
                  · have g0 : decide ((pc : Int) < (t : Int) - 1) = false := decide_eq_false (fun h => by
                      have := HMP.out (by omega)
                      rcases hj with e | e
                      · exact this.1 e
                      · exact this.2.1 e)
                    have haa := HKP.out hj
                    obtain ⟨an, rfl⟩ := Int.eq_ofNat_of_zero_le haa.1
                    have hfound := HJP.out hj an rfl (by omega)
                    have HFO := Lib.hid hfound
                    have HSP2 := Lib.hid (fun k hk ha => HSP.out k hk hj ha)
                    clear haa hfound HKP HJP HSP HMP
                    have hbop : Hid ((op == 22) = true ∨ ((op == 22) = false ∧ (op == 23) = true)) := by
                      rcases hj with e | e
                      · left; simp [e]
                      · right; simp [e]
                    clear hj
                    rcases hbop.out with hb1 | ⟨hb1, hb2⟩
                    · go_wp2_with fail
                      go_loopw [11, 12] (fun fv kv wr => ∃ (k : Nat) (bb : Bool), k ≤ L ∧ kv = .int .i64 k ∧ fv = .bool bb ∧ Hid (bb = true ∨ ∀ k' : Nat, k' < k → bfr xs k' = an → (k' : Int) ∉ row) ∧ Hid (Upd [] wz wr)) (fun _ kv _ => L - (intOf kv).toNat)
                      case atStart => exact ⟨0, false, by omega, rfl, rfl, Or.inr (fun k' h => by omega), HU⟩
                      case round =>
                        clear HU hop hia hto
                        obtain ⟨k, bb, hk, rfl, rfl, HBR, HU⟩ := hrel
                        obtain ⟨wm, rfl⟩ : ∃ wm : World, wm = wr := ⟨_, rfl⟩
                        by_cases hkl : k < L
                        · have hfk := HFR.out wm HU.out k hkl
                          have hia := HIA.out wm HU.out
                          cases bb with
                          | true =>
                            clear HBR
                            go_wp2_with fail
                            go_quiet (fail)
                            go_wp2_with fail
                            go_roundw
                            case rel => exact ⟨k + 1, true, by omega, by go_num, rfl, Or.inl rfl, HU.out.drewN _⟩
                            case measure => simp [intOf]; omega
                          | false =>
                            have hno := HBR.out.resolve_left (by simp)
                            have HNO := Lib.hid hno
                            clear hno HBR
                            by_cases hka : bfr xs k = an
                            · rw [hka] at hfk
                              obtain ⟨pv, cv, br, hrc, hri⟩ := HRQ.out wm HU.out
                              have HAM := Lib.hid (fun n => among_q _ br row (k : Int) wm n hri (by omega))
                              have HBN : Hid (decide ((k : Int) ∈ row) = true ∨ ∀ k' : Nat, k' < k + 1 → bfr xs k' = an → (k' : Int) ∉ row) := by
                                by_cases hm : (k : Int) ∈ row
                                · exact .inl (decide_eq_true hm)
                                · refine .inr (fun k' hk' he => ?_)
                                  by_cases e : k' = k
                                  · subst e; exact hm
                                  · exact HNO.out k' (by omega) he
                              clear hka hri
                              generalize decide ((k : Int) ∈ row) = bn at HAM HBN
                              go_wp2_with fail
                              go_quiet ((go_at_call 15; exact HAM.out _))
                              go_wp2_with fail
                              go_roundw
                              case rel => exact ⟨k + 1, bn, by omega, by go_num, rfl, HBN, HU.out.drewN _⟩
                              case measure => simp [intOf]; omega
                            · have g5 : (((bfr xs k : Nat) : Int) == (an : Int)) = false := by rw [beq_eq_false_iff_ne]; omega
                              have HBN : Hid (false = true ∨ ∀ k' : Nat, k' < k + 1 → bfr xs k' = an → (k' : Int) ∉ row) := by
                                refine .inr (fun k' hk' he => ?_)
                                by_cases e : k' = k
                                · subst e; exact absurd he hka
                                · exact HNO.out k' (by omega) he
                              clear hka
                              generalize bfr xs k = fk at hfk g5
                              go_wp2_with fail
                              go_quiet (fail)
                              go_wp2_with fail
                              go_roundw
                              case rel => exact ⟨k + 1, false, by omega, by go_num, rfl, HBN, HU.out.drewN _⟩
                              case measure => simp [intOf]; omega
                        · obtain rfl : k = L := by omega
                          have hbt : bb = true := by
                            rcases HBR.out with e | e
                            · exact e
                            · obtain ⟨k0, hk0, he⟩ := HFO.out
                              exact absurd (HSP2.out k0 hk0 (by rw [he])) (e k0 hk0 he)
                          subst hbt
                          clear HBR
                          go_wp2_with fail
                          go_roundw
                          case rel => exact ⟨pc + 1, by omega, by omega, by go_num, HU⟩
                          case measure => simp [intOf]; omega
                    · go_wp2_with fail
                      go_loopw [11, 12] (fun fv kv wr => ∃ (k : Nat) (bb : Bool), k ≤ L ∧ kv = .int .i64 k ∧ fv = .bool bb ∧ Hid (bb = true ∨ ∀ k' : Nat, k' < k → bfr xs k' = an → (k' : Int) ∉ row) ∧ Hid (Upd [] wz wr)) (fun _ kv _ => L - (intOf kv).toNat)
                      case atStart => exact ⟨0, false, by omega, rfl, rfl, Or.inr (fun k' h => by omega), HU⟩
                      case round =>
                        clear HU hop hia hto
                        obtain ⟨k, bb, hk, rfl, rfl, HBR, HU⟩ := hrel
                        obtain ⟨wm, rfl⟩ : ∃ wm : World, wm = wr := ⟨_, rfl⟩
                        by_cases hkl : k < L
                        · have hfk := HFR.out wm HU.out k hkl
                          have hia := HIA.out wm HU.out
                          cases bb with
                          | true =>
                            clear HBR
                            go_wp2_with fail
                            go_quiet (fail)
                            go_wp2_with fail
                            go_roundw
                            case rel => exact ⟨k + 1, true, by omega, by go_num, rfl, Or.inl rfl, HU.out.drewN _⟩
                            case measure => simp [intOf]; omega
                          | false =>
                            have hno := HBR.out.resolve_left (by simp)
                            have HNO := Lib.hid hno
                            clear hno HBR
                            by_cases hka : bfr xs k = an
                            · rw [hka] at hfk
                              obtain ⟨pv, cv, br, hrc, hri⟩ := HRQ.out wm HU.out
                              have HAM := Lib.hid (fun n => among_q _ br row (k : Int) wm n hri (by omega))
                              have HBN : Hid (decide ((k : Int) ∈ row) = true ∨ ∀ k' : Nat, k' < k + 1 → bfr xs k' = an → (k' : Int) ∉ row) := by
                                by_cases hm : (k : Int) ∈ row
                                · exact .inl (decide_eq_true hm)
                                · refine .inr (fun k' hk' he => ?_)
                                  by_cases e : k' = k
                                  · subst e; exact hm
                                  · exact HNO.out k' (by omega) he
                              clear hka hri
                              generalize decide ((k : Int) ∈ row) = bn at HAM HBN
                              go_wp2_with fail
                              go_quiet ((go_at_call 15; exact HAM.out _))
                              go_wp2_with fail
                              go_roundw
                              case rel => exact ⟨k + 1, bn, by omega, by go_num, rfl, HBN, HU.out.drewN _⟩
                              case measure => simp [intOf]; omega
                            · have g5 : (((bfr xs k : Nat) : Int) == (an : Int)) = false := by rw [beq_eq_false_iff_ne]; omega
                              have HBN : Hid (false = true ∨ ∀ k' : Nat, k' < k + 1 → bfr xs k' = an → (k' : Int) ∉ row) := by
                                refine .inr (fun k' hk' he => ?_)
                                by_cases e : k' = k
                                · subst e; exact absurd he hka
                                · exact HNO.out k' (by omega) he
                              clear hka
                              generalize bfr xs k = fk at hfk g5
                              go_wp2_with fail
                              go_quiet (fail)
                              go_wp2_with fail
                              go_roundw
                              case rel => exact ⟨k + 1, false, by omega, by go_num, rfl, HBN, HU.out.drewN _⟩
                              case measure => simp [intOf]; omega
                        · obtain rfl : k = L := by omega
                          have hbt : bb = true := by
                            rcases HBR.out with e | e
                            · exact e
                            · obtain ⟨k0, hk0, he⟩ := HFO.out
                              exact absurd (HSP2.out k0 hk0 (by rw [he])) (e k0 hk0 he)
                          subst hbt
                          clear HBR
                          go_wp2_with fail
                          go_roundw
                          case rel => exact ⟨pc + 1, by omega, by omega, by go_num, HU⟩
                          case measure => simp [intOf]; omega
                  · have b1 : (op == 22) = false := by rw [beq_eq_false_iff_ne]; exact fun e => hj (.inl e)
                    have b2' : (op == 23) = false := by rw [beq_eq_false_iff_ne]; exact fun e => hj (.inr e)
                    by_cases hpt1 : pc + 1 < t
                    · have g0 : decide ((pc : Int) < (t : Int) - 1) = true := decide_eq_true (by omega)
                      have b3 : (op == 33) = false := by rw [beq_eq_false_iff_ne]; exact (HMP.out hpt1).2.2
                      clear hj HMP HKP HJP HSP
                      go_wp2_with fail
                      go_roundw
                      case rel => exact ⟨pc + 1, by omega, by omega, by go_num, HU⟩
                      case measure => simp [intOf]; omega
                    · have g0 : decide ((pc : Int) < (t : Int) - 1) = false := decide_eq_false (by omega)
                      clear hj HMP HKP HJP HSP
                      go_wp2_with fail
                      go_roundw
                      case rel => exact ⟨pc + 1, by omega, by omega, by go_num, HU⟩
                      case measure => simp [intOf]; omega
                · obtain rfl : pc = t := by omega
                  go_wp2_with fail
                  go_roundw
                  case rel => exact ⟨q + 1, by omega, by go_num, by rw [← HBQ.out], HU⟩
                  case measure => simp [intOf]; omega
            · obtain rfl : q = L := by omega
              rw [HBE.out]
              go_wp2_with fail
              go_roundw
              case rel => exact ⟨i + 1, by omega, by go_num, HUz.out.trans HU.out⟩
              case measure => simp [intOf]; omega
        · obtain rfl : i = p.ms.length := by omega
          go_wp2_with fail
          go_ret
          exact ⟨rfl, HU3.out.trans HU.out⟩
    · have d0 : (c == 0) = false := by rw [beq_eq_false_iff_ne]; exact hz
      clear hmay
      go_wp2_with fail
      go_ret
      exact ⟨rfl, HU3.out⟩

end Go.Proofs.YtagjchgpcekmnaaDoor
