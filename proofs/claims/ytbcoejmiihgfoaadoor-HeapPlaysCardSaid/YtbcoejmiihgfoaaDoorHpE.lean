/- HeapPlays: a new object is noted. HeapPlays: an object is asked for, in the nursery or in the old half. -/
import Derived.Test.YtbcoejmiihgfoaaDoorHpA
import Derived.Test.YtbcoejmiihgfoaaDoorHpB
/-! HeapPlays: a new object is noted. -/
/-! HeapPlays: a new object is noted. -/
namespace Go.Proofs.YtbcoejmiihgfoaaDoor
open Go.RowKit

theorem ones_len {w : World} {B : Nat} {e : TypeId} {v : Value} {xs : List Int} (h : OwnI w B e v xs) : ∃ b, IntsV w v b xs := by
 obtain ⟨b, h1, _⟩ := h.ints
 exact ⟨b, h1⟩

set_option maxRecDepth 1000000 in
set_option maxHeartbeats 16000000 in
theorem hnote2 {w0 : World} {B ub pb nl lc i : Nat} {la : Option Addr} {L : HL} {hv hmv : Value} {p : Prg} {lim nur half ask at_ : Int} {S : Hp} {ov rv yv tv : Value} {ps : List OP} {rs : List Int} {ys : List Bool} {ts : List Int} {u0 u1 : Int} {wx : World} {kk m : Nat} {da r : Int} {f : Nat → Value} {Q : Exit → Act → World → Prop}
  (hM : HpW w0 wx B ub L hv hmv S ov rv yv tv ps rs ys ts u0 u1) (hT : ∀ q : OP, q.o = (da, List.replicate m 0) → HpT S (ps ++ [q]) (rs ++ [r]) (ys ++ [decide (kk = 0)]) ts u0 u1 nur half p.cs (i + 1)) (hnr : r ∉ rs)
  (hlp : ps.length = rs.length ∧ ys.length = rs.length) (hlr : rs.length ≤ 60) (hm : m ≤ 50) (hkk : kk = 0 ∨ kk = 1) (h26 : f 26 = .int .i64 (kk : Int)) (h27 : f 27 = .int .i64 da) (h29 : f 29 = .int .i64 (2 + (m : Int))) (h30 : f 30 = .int .i64 r)
  (hQ : ∀ a' w', HpR w0 B L hv hmv p lim nur la nl lc ask at_ pb ub half i a' w' → Q .normal a' w') :
  (hpS 62).wp Tryd.prog Q (hpF lim nur la nl lc ask at_ pb L.hb ub half ov rv yv tv (.int .i64 i) f) wx := by
 obtain ⟨i0, hi0, hz0, hz1, hz2⟩ := info_parts Tryd.infoInt
 have HI := Lib.hid hi0
 have HZ0 := Lib.hid hz0
 have HZ1 := Lib.hid hz1
 have HZ2 := Lib.hid hz2
 clear hi0 hz0 hz1 hz2
 obtain ⟨i1, hi0, hz0, hz1, hz2⟩ := info_parts Tryd.infoBool
 have JI := Lib.hid hi0
 have JZ0 := Lib.hid hz0
 have JZ1 := Lib.hid hz1
 have JZ2 := Lib.hid hz2
 clear hi0 hz0 hz1 hz2
 obtain ⟨i2, hi0, hz0, hz1, hz2⟩ := info_parts Tryd.infoObj
 have KI := Lib.hid hi0
 have KZ0 := Lib.hid hz0
 have KZ1 := Lib.hid hz1
 have KZ2 := Lib.hid hz2
 clear hi0 hz0 hz1 hz2
 have HQ := Lib.hid hQ
 have HT := Lib.hid hT
 have HNR := Lib.hid hnr
 have esub : (2 : Int) + (m : Int) - 2 = (m : Int) := by omega
 have hpl : ps.length ≤ 60 := by omega
 have hyl : ys.length ≤ 60 := by omega
 clear hlp
 have hbk : ((kk : Int) == 0) = decide (kk = 0) := by rcases hkk with rfl | rfl <;> rfl
 have HBK := Lib.hid hbk
 clear hbk
 unfold hpF
 rw [h26, h27, h29, h30]
 conv => arg 2; whnf
 have HM := Lib.hid hM
 clear h26 h27 h29 h30 hQ hM hT hkk hnr
 obtain ⟨pr, cr, rfl⟩ := own_shape HM.out.refs
 obtain ⟨po, co, rfl⟩ := own_shape HM.out.mir.out
 obtain ⟨py, cy, rfl⟩ := own_shape HM.out.yng
 go_wp2_with fail
 rw [make_longs wx m (by omega)]
 have hW1 := (Upd.refl [] wx).alloc (.cells (icells (List.replicate m 0)) 2)
 have hW2 := hW1.alloc (.cells #[.int .i64 da, .slice (some ⟨wx.heap.size, 0, none⟩) m m] 51)
 have hvb := ((Upd.refl [] (wx.alloc (.cells (icells (List.replicate m 0)) 2))).alloc (.cells #[.int .i64 da, .slice (some ⟨wx.heap.size, 0, none⟩) m m] 51)).heap (heap_alloc_new wx (.cells (icells (List.replicate m 0)) 2)) (by simp)
 have hob := heap_alloc_new (wx.alloc (.cells (icells (List.replicate m 0)) 2)) (.cells #[.int .i64 da, .slice (some ⟨wx.heap.size, 0, none⟩) m m] 51)
 have hsz : (wx.alloc (.cells (icells (List.replicate m 0)) 2)).heap.size = wx.heap.size + 1 := by simp
 rw [hsz] at hob
 have HM2 := Lib.hid (HM.out.same hW2)
 have hbw := HM.out.bw
 obtain ⟨r1, r2, r3, r4⟩ := HM.out.rb
 have hqn : ∀ q ∈ ps, q.b ≠ wx.heap.size := fun q hq e => by
  have h1 := lt_of_heap (HM.out.mir.vals q hq).2.1
  omega
 have hqo : (Value.slice po ps.length co).ownBlock ≠ some wx.heap.size := fun e => by have := (r1 _ e).2; omega
 have HQN := Lib.hid hqn
 have HQO := Lib.hid hqo
 have HVB := Lib.hid hvb
 have HOB := Lib.hid hob
 clear hW1 hW2 hvb hob hsz r1 r2 r3 r4 hqn hqo HM
 go_upto_region 63 with fail
 have hB : B ≤ wx.heap.size := hbw
 generalize (wx.alloc (.cells (icells (List.replicate m 0)) 2)).alloc (.cells #[.int .i64 da, .slice (some ⟨wx.heap.size, 0, none⟩) m m] 51) = w2 at HM2 HVB HOB ⊢
 generalize wx.heap.size = vb at *
 obtain ⟨ib, hiv⟩ := ones_len HM2.out.refs
 have HA := Lib.hid (among_any _ ib rs r w2 hiv (by omega))
 clear hiv
 go_wp2_with fail
 refine HA.out.mono ?_
 rintro e w3 ⟨rfl, rfl⟩
 rw [decide_eq_false HNR.out]
 have o0 : w2.cell? ⟨vb + 1, 0, none⟩ = some (.int .i64 da) := by rw [cell_of HOB.out]; rfl
 have o1 : w2.cell? ⟨vb + 1, 1, none⟩ = some (.slice (some ⟨vb, 0, none⟩) m m) := by rw [cell_of HOB.out]; rfl
 clear HA
 go_wp2_with (at_builtin; refine stop_here ?_)
 refine Hid.mk ?_
 have hcn := cell_of (heap_alloc_new w2 (.cells #[.int .i64 da, .slice (some ⟨vb, 0, none⟩) m m] 51))
 have hMA := HM2.out.same ((Upd.refl [] w2).alloc (.cells #[.int .i64 da, .slice (some ⟨vb, 0, none⟩) m m] 51))
 refine (wpList_append_own_at _ rfl _ _ 41 rfl B 51 i2 (.agg #[.int .i64 0, .slice none 0 0]) 2 32 Tryd.underlying41 KI.out KZ0.out KZ1.out KZ2.out rfl (by decide) _ _ _ rfl hMA.mir.out ⟨w2.heap.size, 0, none⟩ 1 1 [.int .i64 da, .slice (some ⟨vb, 0, none⟩) m m] rfl rfl ?d1 ?d2 ?d3 ?d4 ?d5 ?d6)
 case d1 =>
  intro jj uu hjj
  rw [Addr.add_lit, Nat.zero_add, hcn]
  simpa using hjj
 case d2 => simp [Value.oneCell']
 case d3 => unfold maxLen; omega
 case d4 => omega
 case d5 => have := HM2.out.bw; simp; omega
 case d6 =>
  intro v' w4 hown' hgrow _ hat
  have HP := Lib.hid (hMA.pushO (q := ⟨da, List.replicate m 0, .slice (some ⟨vb, 0, none⟩) m m, vb⟩) (by simp) (((Upd.refl [] w2).alloc _).heap HVB.out (by simp)) hB HQO.out HQN.out hown' hgrow hat)
  clear hown' hgrow hat hcn hMA HM2 HVB HOB o0 o1
  go_wp2_with (at_builtin; refine stop_here ?_)
  refine Hid.mk ?_
  have hc8 := cell_of (heap_alloc_new w4 (.cells #[.int .i64 r] 3))
  refine (wpList_append_own_at _ rfl _ _ 29 rfl B 3 i0 (.int .i64 0) 1 8 Tryd.underlying29 HI.out HZ0.out HZ1.out HZ2.out rfl (by decide) _ _ _ rfl (HP.out.refs.alloc _) ⟨w4.heap.size, 0, none⟩ 1 1 [.int .i64 r] rfl rfl ?e1 ?e2 ?e3 ?e4 ?e5 ?e6)
  case e1 =>
   intro jj uu hjj
   rw [Addr.add_lit, Nat.zero_add, hc8]
   simpa using hjj
  case e2 => simp [Value.oneCell']
  case e3 => unfold maxLen; omega
  case e4 => omega
  case e5 => have := HP.out.bw; simp; omega
  case e6 =>
   intro v2 w5 hown2 hgr2 _ hat2
   have HR := Lib.hid (HP.out.pushR hown2 hgr2 hat2)
   clear hown2 hgr2 hat2 hc8 HP
   go_wp2_with (at_builtin; refine stop_here ?_)
   refine Hid.mk ?_
   have hc9 := cell_of (heap_alloc_new w5 (.cells #[.bool ((kk : Int) == 0)] 4))
   refine (wpList_append_own_at _ rfl _ _ 42 rfl B 4 i1 (.bool false) 1 1 Tryd.underlying42 JI.out JZ0.out JZ1.out JZ2.out rfl (by decide) _ _ _ rfl (HR.out.yng.alloc _) ⟨w5.heap.size, 0, none⟩ 1 1 [.bool ((kk : Int) == 0)] rfl rfl ?f1 ?f2 ?f3 ?f4 ?f5 ?f6)
   case f1 =>
    intro jj uu hjj
    rw [Addr.add_lit, Nat.zero_add, hc9]
    simpa using hjj
   case f2 => simp [Value.oneCell']
   case f3 => unfold maxLen; omega
   case f4 => omega
   case f5 => have := HR.out.bw; simp; omega
   case f6 =>
    intro v3 w6 hown3 hgr3 _ _
    rw [HBK.out] at hown3
    have HY := Lib.hid (HR.out.pushY hown3 hgr3)
    clear hown3 hgr3 hc9 HR
    have HT3 := Lib.hid (HT.out ⟨da, List.replicate m 0, .slice (some ⟨vb, 0, none⟩) m m, vb⟩ rfl)
    go_wp2_with fail
    exact HQ.out _ _ ⟨_, _, _, _, _, _, _, _, _, _, _, HY.out, HT3.out, hpF_eq (by kernel_rfl)⟩
end Go.Proofs.YtbcoejmiihgfoaaDoor

/-! HeapPlays: an object is asked for, in the nursery or in the old half. -/
/-! HeapPlays: an object is asked for, in the nursery or in the old half. -/
namespace Go.Proofs.YtbcoejmiihgfoaaDoor
open Go.RowKit

set_option maxRecDepth 1000000 in
set_option maxHeartbeats 16000000 in
theorem hnote {w0 : World} {B ub pb nl lc i : Nat} {la : Option Addr} {L : HL} {hv hmv mv : Value} {p : Prg} {cp : Option Addr} {cc : Nat} {lim nur half ask at_ : Int} {S : Hp} {ov rv yv tv : Value} {ps : List OP} {rs : List Int} {ys : List Bool} {ts : List Int} {u0 u1 : Int} {wx : World} {kk m : Nat} {da : Int} {f : Nat → Value} {Q : Exit → Act → World → Prop}
  (hC : HpC w0 p cp cc mv pb lim nur half) (hT : HpT S ps rs ys ts u0 u1 nur half p.cs i) (ft : Fits S kk da (2 + (m : Int))) (hM : HpW w0 wx B ub L hv hmv (S.laid kk da (2 + (m : Int))) ov rv yv tv ps rs ys ts u0 u1)
  (hkk : kk = 0 ∨ kk = 1) (hi : i < nl) (hn : nl ≤ 60) (h26 : f 26 = .int .i64 (kk : Int)) (h27 : f 27 = .int .i64 da) (h29 : f 29 = .int .i64 (2 + (m : Int))) (h30 : f 30 = .int .i64 ((S.sp kk).top + 1))
  (hQ : ∀ a' w', HpR w0 B L hv hmv p lim nur la nl lc ask at_ pb ub half i a' w' → Q .normal a' w') :
  (hpS 61).wp Tryd.prog Q (hpF lim nur la nl lc ask at_ pb L.hb ub half ov rv yv tv (.int .i64 i) f) wx := by
 have HQ := Lib.hid hQ
 obtain ⟨hL1, hL2, hL3, hL4, hL5, hL6, hL7⟩ := hT.k.laid ft
 have HLN := Lib.hid hT.len
 have hfew := hT.few
 have hw1 := ft.w1
 have hw2 := ft.w2
 have hsp0 : 0 ≤ S.y.fr ∧ S.y.fr ≤ S.y.top ∧ S.y.top ≤ S.y.to ∧ S.y.to ≤ S.A.length := hT.k.ok.sp0 0
 have hsp1 : 0 ≤ S.h0.fr ∧ S.h0.fr ≤ S.h0.top ∧ S.h0.top ≤ S.h0.to ∧ S.h0.to ≤ S.A.length := hT.k.ok.sp0 1
 have hln := hT.k.ok.len
 have hu0 := hT.u0
 have hu1 := hT.u1
 have hcd := hC.bd
 have hcf := hC.hf
 have hwr0 : IntKind.i64.wrap (u0 + (2 + (m : Int))) = u0 + (2 + (m : Int)) := IntWalk.i64_in _ (by omega)
 have hwr1 : IntKind.i64.wrap (u1 + (2 + (m : Int))) = u1 + (2 + (m : Int)) := IntWalk.i64_in _ (by omega)
 have esub : (2 : Int) + (m : Int) - 2 = (m : Int) := by omega
 -- what is told behind it
 have HT2 : Hid (∀ (u0' u1' : Int) (q : OP), (u0' = if kk = 0 then u0 + (2 + (m : Int)) else u0) → (u1' = if kk = 0 then u1 else u1 + (2 + (m : Int))) → q.o = (da, List.replicate m 0) → HpT (S.laid kk da (2 + (m : Int))) (ps ++ [q]) (rs ++ [(S.sp kk).top + 1]) (ys ++ [decide (kk = 0)]) ts u0' u1' nur half p.cs (i + 1)) := by
  intro u0' u1' q e0 e1 eq
  have s0 : (S.laid kk da (2 + (m : Int))).y = _ := laid_sp S kk 0 da (2 + (m : Int)) ft.k3 (by omega)
  have s1 : (S.laid kk da (2 + (m : Int))).h0 = _ := laid_sp S kk 1 da (2 + (m : Int)) ft.k3 (by omega)
  refine ⟨hL1, ?_, ?_, ?_, ?_, by rw [laid_cs]; exact hT.cs, by simp; omega⟩
  ·rw [List.map_append, List.map_append, hL4, hT.os]
   congr 1
   simp only [List.map_cons, List.map_nil]
   rw [hL6, eq]
   have e : (2 + (m : Int) - 2).toNat = m := by omega
   rw [e]
  ·rw [List.map_append, hL5, hT.ys]
   simp only [List.map_cons, List.map_nil]
   rw [hL7]
  ·rw [s0]
   rcases hkk with rfl | rfl
   ·rw [if_pos rfl] at e0 ⊢
    simp only [Hp.sp]
    omega
   ·rw [if_neg (by omega)] at e0 ⊢
    simp only [Hp.sp]
    omega
  ·rw [s1]
   rcases hkk with rfl | rfl
   ·rw [if_pos rfl] at e1
    rw [if_neg (by omega)]
    simp only [Hp.sp]
    omega
   ·rw [if_neg (by omega)] at e1
    rw [if_pos rfl]
    simp only [Hp.sp]
    omega
 have HM := Lib.hid hM
 have hs0 : wx.cell? ⟨ub, 0, none⟩ = some (.int .i64 u0) := by rw [cell_of hM.us]; rfl
 have hs1 : wx.cell? ⟨ub, 1, none⟩ = some (.int .i64 u1) := by rw [cell_of hM.us]; rfl
 have hs2 : wx.frozen? ⟨ub, 0, none⟩ = false := froz_of hM.us 0
 have hs3 : wx.frozen? ⟨ub, 1, none⟩ = false := froz_of hM.us 1
 unfold hpF
 rw [h26, h27, h29, h30]
 conv => arg 2; whnf
 go_upto_region 61 with fail
 rename_i K1 hK1
 have HK1 := Lib.hid hK1
 clear hK1
 have HNR := Lib.hid hL2
 clear h26 h27 h29 h30 hQ hM hL1 hL2 hL4 hL5 hL6 hL7 hT hC hsp0 hsp1 hln hu0 hu1 hcd hcf
 have HSL : Hid (∀ W, W = wx.setCell ⟨ub, kk, none⟩ (.int .i64 ((if kk = 0 then u0 else u1) + (2 + (m : Int)))) → HpW w0 W B ub L hv hmv (S.laid kk da (2 + (m : Int))) ov rv yv tv ps rs ys ts (if kk = 0 then u0 + (2 + (m : Int)) else u0) (if kk = 0 then u1 else u1 + (2 + (m : Int)))) := by
  intro W hW
  subst hW
  refine HM.out.used _ _ ((Upd.refl _ wx).setCell (.inl (by simp)) _) ?_
  rw [heap_setCell HM.out.us]
  rcases hkk with rfl | rfl
  ·rfl
  ·rfl
 generalize hr : (S.sp kk).top + 1 = r at *
 clear hr
 refine wp_cut (fun a' W => HpW w0 W B ub L hv hmv (S.laid kk da (2 + (m : Int))) ov rv yv tv ps rs ys ts (if kk = 0 then u0 + (2 + (m : Int)) else u0) (if kk = 0 then u1 else u1 + (2 + (m : Int))) ∧ ∃ f, a' = hpF lim nur la nl lc ask at_ pb L.hb ub half ov rv yv tv (.int .i64 i) f ∧ (f 26 = .int .i64 (kk : Int) ∧ f 27 = .int .i64 da ∧ f 29 = .int .i64 (2 + (m : Int)) ∧ f 30 = .int .i64 r)) ?_ ?_
 ·rintro a W ⟨hw, f, rfl, h26, h27, h29, h30⟩
  refine HK1.out _ _ ?_
  exact hnote2 hw (fun q hq => HT2.out _ _ q rfl rfl hq) HNR.out HLN.out (by omega) (by omega) hkk h26 h27 h29 h30 HQ.out
 ·intro J2 K2 hJ2 hK2
  have HJ2 := Lib.hid hJ2
  clear hJ2
  rcases hkk with rfl | rfl
  ·as_aux_lemma =>
    have HU := Lib.hid (HSL.out _ rfl)
    clear HSL
    go_wp2_with fail
    exact Go.Met.intro (HJ2.out _ _ ⟨HU.out, hpF_eqP _ (by kernel_rfl) ⟨rfl, rfl, rfl, rfl⟩⟩)
  ·as_aux_lemma =>
    have HU := Lib.hid (HSL.out _ rfl)
    clear HSL
    go_wp2_with fail
    exact Go.Met.intro (HJ2.out _ _ ⟨HU.out, hpF_eqP _ (by kernel_rfl) ⟨rfl, rfl, rfl, rfl⟩⟩)
end Go.Proofs.YtbcoejmiihgfoaaDoor
