/- model.Peak. -/
import Derived.Test.YtojobkhidlfeoaaGreatDoorPkD
namespace Go.Proofs.YtojobkhidlfeoaaGreatDoor
open Go.RowKit

/-- A slice value's length. -/
def sLen : Value → Nat
 | .slice _ n _ => n
 | _ => 0
/-- What stands at the loop's head: the frames' words of the state before. -/
def prevE (p : Prg) (ss : List Lk) (S : Mc) : Nat → List Int
 | 0 => []
 | j + 1 => (Mc.steps p j S).each p ss
theorem steps_succ (p : Prg) (j : Nat) (S : Mc) : Mc.steps p (j + 1) S = (Mc.steps p j S).step p := by rw [steps_add]; rfl

/-! The block of what is known of a program is none of the program's. -/
def OnlyI (w : World) (x : Nat) : Prop := ∀ j u, w.cell? ⟨x, j, none⟩ = some u → (∃ p n c, u = .slice p n c) ∨ (j = 3 ∧ ∃ a, u = .int .i64 a)
def ReadsI (x : Nat) (w w' : World) : Prop := ∀ (q : Addr) u, q.block ≠ x → w.cell? q = some u → w'.cell? q = some u
theorem ne_str {w : World} {x b j : Nat} {s : ByteArray} (hb : OnlyI w x) (h : w.cell? ⟨b, j, none⟩ = some (.string s)) : b ≠ x := by
 rintro rfl
 rcases hb _ _ h with ⟨_, _, _, h⟩ | ⟨_, _, h⟩ <;> cases h
theorem ClassAt.readsI {w w' : World} {v : Value} {cs : List ByteArray} {x : Nat} (h : ClassAt w v cs) (hb : OnlyI w x) (hr : ReadsI x w w') : ClassAt w' v cs := by
 obtain ⟨a, cap, h1, h0, h2, h3, h4⟩ := h
 refine ⟨a, cap, h1, h0, h2, h3, fun i hi => ?_⟩
 obtain ⟨b, o, h5, h6, h7⟩ := h4 i hi
 exact ⟨b, o, h5, h6, hr _ _ (ne_str hb h7) h7⟩
theorem CodeAt.readsI {w w' : World} {v : Value} {xs : List Ins} {x : Nat} (h : CodeAt w v xs) (hb : OnlyI w x) (hr : ReadsI x w w') : CodeAt w' v xs := by
 obtain ⟨a, cap, h1, h2, h3, h4⟩ := h
 refine ⟨a, cap, h1, h2, h3, fun i hi => ?_⟩
 obtain ⟨b, o, h5, h6, h7⟩ := h4 i hi
 have hne : b ≠ x := by
  rintro rfl
  rcases hb _ _ h7.1 with ⟨_, _, _, h⟩ | ⟨e1, _⟩
  ·cases h
  ·rcases hb _ _ h7.2.1 with ⟨_, _, _, h⟩ | ⟨e2, _⟩
   ·cases h
   ·omega
 exact ⟨b, o, h5, h6, hr _ _ hne h7.1, hr _ _ hne h7.2.1, hr _ _ hne h7.2.2.1, hr _ _ hne h7.2.2.2⟩
theorem MethsAt.readsI {w w' : World} {v : Value} {ms : List Meth} {x : Nat} (h : MethsAt w v ms) (hb : OnlyI w x) (hr : ReadsI x w w') : MethsAt w' v ms := by
 obtain ⟨a, cap, h1, h2, h3, h4⟩ := h
 refine ⟨a, cap, h1, h2, h3, fun i hi => ?_⟩
 obtain ⟨b, o, h5, h6, h7, h8, h9, u, h10, h11⟩ := h4 i hi
 have hne := ne_str hb h7
 exact ⟨b, o, h5, h6, hr _ _ hne h7, hr _ _ hne h8, hr _ _ hne h9, u, hr _ _ hne h10, h11.readsI hb hr⟩
theorem InfoAt.only {w : World} {ib : Nat} {p : Prg} {ss : List Lk} {n : Int} (h : InfoAt w ib p ss n) : OnlyI w ib := by
 obtain ⟨cv, mv, lv, hb, ⟨_, _, rfl, _⟩, ⟨_, _, rfl, _⟩, ⟨_, _, rfl, _⟩⟩ := h
 intro j u hc
 rw [cell_of hb] at hc
 match j, hc with
 | 0, hc => injection hc with hc; exact .inl ⟨_, _, _, hc.symm⟩
 | 1, hc => injection hc with hc; exact .inl ⟨_, _, _, hc.symm⟩
 | 2, hc => injection hc with hc; exact .inl ⟨_, _, _, hc.symm⟩
 | 3, hc => injection hc with hc; exact .inr ⟨rfl, _, hc.symm⟩
 | j + 4, hc => simp at hc
theorem MAt.wideI {B : Nat} {w : World} {U R : List Nat} {mb ib : Nat} {p : Prg} {S : Mc} {X : MX} {ss : List Lk} {n : Int} (h : MAt B w U R mb ib p S X) (hi : InfoAt w ib p ss n) : MAt B w (ib :: U) R mb ib p S X := by
 have hb : OnlyI (offs w U) ib := fun j u hc => hi.only j u (offs_cell U hc).2
 have hr : ReadsI ib (offs w U) (offs w (ib :: U)) := fun q u hq hc => by
  obtain ⟨h1, h2⟩ := offs_cell U hc
  exact cell_offs h2 (by
   intro hm
   rcases List.mem_cons.1 hm with h3 | h3
   ·exact hq h3
   ·exact h1 h3)
 exact ⟨h.box, fun b hb => List.mem_cons_of_mem _ (h.sub b hb), h.low, h.cls.readsI hb hr, h.mth.readsI hb hr, h.frow, h.glen, h.orow, h.loc, h.val, h.dis, h.stk, h.cut, h.inp, h.out, h.mine, h.own⟩
theorem PkS.stp {B : Nat} {w0 wr w' : World} {ib mb : Nat} {p : Prg} {ss : List Lk} {n0 n : Int} {S' : Mc} {v : Value} {ev : List Int} {U R : List Nat} (h2 : ib ∈ U) (h3 : ib ∉ R) (h4 : ∀ b ∈ R, w0.heap.size ≤ b) (h5 : ∀ q, v.ownBlock = some q → q ∈ U ∧ q ∉ R)
  (hi : InfoK w0 wr ib p ss n0 n) (ho : OwnI wr w0.heap.size 3 v ev) (hs : Stp B wr w' U R mb ib p S') : PkS B w0 w' ib mb p ss n0 n S' v ev := by
 obtain ⟨⟨X', hm⟩, hu⟩ := hs
 have hsz := hi.upd.size
 have hib := hi.lt
 refine ⟨⟨U ++ news wr w', R ++ news wr w', X', hm, List.mem_append_left _ h2, fun hm => ?_, fun b hb => ?_, fun q hq => ⟨List.mem_append_left _ (h5 q hq).1, fun hm => ?_⟩⟩, hi.keep hu h4, row_upd ho hu (fun q hq => (h5 q hq).2)⟩
 ·rcases List.mem_append.1 hm with h | h
  ·exact h3 h
  ·have := (mem_news.1 h).1; omega
 ·rcases List.mem_append.1 hb with h | h
  ·exact h4 b h
  ·have := (mem_news.1 h).1; omega
 ·rcases List.mem_append.1 hm with h | h
  ·exact (h5 q hq).2 h
  ·have h6 := (mem_news.1 h).1
   have h7 := (World.ownsRow.lt ho q hq).2
   omega

set_option maxRecDepth 100000 in
set_option maxHeartbeats 8000000 in
theorem mpeak_any {w : World} {ib : Nat} {p : Prg} {ss : List Lk} {n0 : Int} (h : InfoAt w ib p ss n0) (hn0 : 0 ≤ n0 ∧ n0 ≤ 500000000) (v : Vf p ss) (ip : Option Addr) (ic b o : Nat) (inp : List Int) (hi : LngV w (.slice ip inp.length ic) b o inp) (hip : ip = none → ic = 0) (hin : inp.length ≤ 100000) (hin2 : ∀ x ∈ inp, in64 x) (fuel : Nat) (hf : fuel ≤ 2000) :
  Calls Tryz.prog 33 #[.pointer (some ⟨ib, 0, none⟩), .slice ip inp.length ic, .int .i64 fuel] w fun e w' => ∃ (k : Nat) (n : Int), (Mc.steps p k (Mc.new p inp fuel)).fin ≠ none ∧ e = .returned (.tuple #[.int .i64 (Mc.pkO p k (Mc.new p inp fuel)), .int .i64 (Mc.pkF p ss k (Mc.new p inp fuel)), .nilIface]) ∧ InfoK w w' ib p ss n0 n ∧ n0 ≤ n ∧ n ≤ n0 + 400000 := by
 obtain ⟨i0, hii, hz0, hz1, hz2⟩ := info_parts Tryz.infoInt
 have HI := Lib.hid hii
 have HZ0 := Lib.hid hz0
 have HZ1 := Lib.hid hz1
 have HZ2 := Lib.hid hz2
 clear hii hz0 hz1 hz2
 have HNEW := Lib.hid (mnew_any h v ip ic b o inp hi hip hin fuel hf)
 have HV := Lib.hid v
 have HIN := Lib.hid h
 have HOK0 := Lib.hid (Mc.Ok.new v (inp := inp) (fuel := fuel) hin2 hf)
 have HN0 := Lib.hid hn0
 have HSS := Lib.hid v.look.len
 obtain ⟨S0, hS0⟩ : ∃ S0, Mc.new p inp fuel = S0 := ⟨_, rfl⟩
 have hfin0 : S0.fin = none := by rw [← hS0]; rfl
 have HL0 : Hid (S0.frs.length = 1) := by rw [← hS0]; exact Lib.hid rfl
 rw [hS0] at HNEW HOK0 ⊢
 have HF0 := Lib.hid hfin0
 clear h v hi hip hin hin2 hf hn0 hS0 hfin0
 go_enter Tryz.func33, Tryz.ntmps33
 go_wp2_with fail
 refine HNEW.out.mono ?_
 rintro e w1 ⟨B, U, R, mb, X, rfl, hlow, hm, hu1⟩
 have hib : ib < w.heap.size := by
  obtain ⟨_, _, _, hb, _⟩ := HIN.out
  exact lt_of_heap hb
 have HP1 : Hid (PkS B w w1 ib mb p ss n0 n0 S0 (.slice none 0 0) []) := by
  have hiU : ib ∉ U := fun h => by have := hlow ib h; omega
  refine ⟨⟨ib :: U, R, X, hm.wideI (HIN.out.upd hu1), by simp, fun h => hiU (hm.sub ib h), fun b hb => hlow b (hm.sub b hb), fun q hq => by cases hq⟩, (InfoK.start HIN.out).keep hu1 (by simp), World.ownsRow_nil _ _ _ _⟩
 clear hlow hm hu1 HNEW
 go_wp2_with fail
 go_loopw [11, 12, 13, 14, 15] (fun a b c d e wr => ∃ (j : Nat) (n : Int), a = .int .i64 (Mc.pkO p j S0) ∧ b = .int .i64 (Mc.pkB p ss j S0) ∧ c = .int .i64 (prevE p ss S0 j).sum ∧ e = .bool (Mc.steps p j S0).fin.isNone ∧ n0 ≤ n ∧ n ≤ n0 + j ∧ Hid (PkS B w wr ib mb p ss n0 n (Mc.steps p j S0) d (prevE p ss S0 j)) ∧ Hid ((Mc.steps p j S0).Ok p ss) ∧ Hid (((Mc.steps p j S0).fin = none → (Mc.steps p j S0).mu p + j ≤ 300000) ∧ j ≤ 300001) ∧ Hid (EachR (prevE p ss S0 j) ((Mc.steps p j S0).each p ss) ∨ (Mc.steps p j S0).fin ≠ none) ∧ Hid ((Mc.steps p j S0).fin ≠ none → Mc.pkF p ss j S0 = Mc.pkB p ss j S0)) (fun _ _ _ _ e wr => match e with | .bool true => muW p wr mb + 1 | _ => 0)
 case atStart =>
  refine ⟨0, n0, rfl, rfl, rfl, ?_, Int.le_refl _, by omega, HP1, HOK0, ?_, ?_, ?_⟩
  ·show Value.bool true = .bool S0.fin.isNone
   rw [HF0.out]
   rfl
  ·have h := HOK0.out.room
   exact Lib.hid ⟨fun _ => by show S0.mu p + 0 ≤ _; omega, by omega⟩
  ·obtain ⟨f, bl, hf⟩ := List.exists_cons_of_ne_nil (HOK0.out.live HF0.out)
   have hl : S0.frs.length = 1 := HL0.out
   have he : (S0.each p ss).length = 1 := by rw [each_len, hl]
   exact Lib.hid (.inl (.inr (.inl (by
    show ∃ x, S0.each p ss = [] ++ [x]
    match hx : S0.each p ss, he with
    | [x], _ => exact ⟨x, rfl⟩))))
  ·exact Lib.hid (fun h => absurd HF0.out h)
 case round =>
  obtain ⟨j, n, rfl, rfl, rfl, rfl, hn1, hn2, HP, HOK, HMU, HER, HPK⟩ := hrel
  obtain ⟨wx, rfl⟩ : ∃ wx : World, wx = wr := ⟨_, rfl⟩
  obtain ⟨T, hT⟩ : ∃ T, Mc.steps p j S0 = T := ⟨_, rfl⟩
  obtain ⟨wa, hwa⟩ : ∃ wa, Mc.pkO p j S0 = wa := ⟨_, rfl⟩
  obtain ⟨sa, hsa⟩ : ∃ sa, Mc.pkB p ss j S0 = sa := ⟨_, rfl⟩
  obtain ⟨pe, hpe⟩ : ∃ pe, prevE p ss S0 j = pe := ⟨_, rfl⟩
  rw [hT] at HP HOK HMU HER HPK
  rw [hsa] at HPK
  rw [hpe] at HP HER
  rw [hT, hwa, hsa, hpe]
  have HT := Lib.hid hT
  have HWA := Lib.hid hwa
  have HSA := Lib.hid hsa
  have HPE := Lib.hid hpe
  clear hT hwa hsa hpe
  have HN1 := Lib.hid hn1
  have HN2 := Lib.hid hn2
  clear hn1 hn2
  obtain ⟨mo, hmo⟩ : ∃ mo, T.fin.isNone = mo := ⟨_, rfl⟩
  rw [hmo]
  cases mo with
  | false =>
   have hne : T.fin ≠ none := by intro e; rw [e] at hmo; cases hmo
   clear hmo
   go_wp2_with fail
   refine bodyPost_ret (v := .tuple #[.int .i64 wa, .int .i64 sa, .nilIface]) (by simp [results, Tryz.results33, go_sem]) rfl ?_
   refine ⟨j, n, by rw [HT.out]; exact hne, ?_, HP.out.inf, HN1.out, by have := HN2.out; have := HMU.out.2; omega⟩
   rw [HWA.out, HPK.out hne]
  | true =>
   have hfe : T.fin = none := by
    cases h : T.fin with
    | none => rfl
    | some F => rw [h] at hmo; cases hmo
   clear hmo
   have HFE := Lib.hid hfe
   have HMUX : Hid (muW p wx mb = T.mu p) := by
    obtain ⟨_, _, _, h1, _⟩ := HP.out.mat
    exact h1.mu
   have hj := HMU.out.1 hfe
   have hER : EachR pe (T.each p ss) := by
    rcases HER.out with h | h
    ·exact h
    ·exact absurd hfe h
   have HEA := Lib.hid hER
   have HJ := Lib.hid hj
   clear hfe hj hER HER HPK
   obtain ⟨GE, hGE⟩ : ∃ GE, T.each p ss = GE := ⟨_, rfl⟩
   rw [hGE] at HEA
   have HGE := Lib.hid hGE
   have hGL : GE.length = T.frs.length := by rw [← hGE]; exact each_len p ss T
   have HGL := Lib.hid hGL
   have hbd := each_bd HV.out HOK.out
   rw [hGE] at hbd
   have HBD := Lib.hid hbd
   have HROOM : Hid (T.frs.length ≤ 300000 ∧ T.objs.length ≤ 300000) := by
    have := HOK.out.room
    show _ ∧ _
    omega
   clear hGE hGL hbd
   go_wp2_with fail
   go_loopw [13, 14] (fun c d wr => ∃ (n' : Int) (ev : List Int), c = .int .i64 ev.sum ∧ n ≤ n' ∧ n' ≤ n + 1 ∧ Hid (PkS B w wr ib mb p ss n0 n' T d ev) ∧ Hid ((ev = pe ∧ n' = n) ∨ ev = GE)) (fun _ d _ => T.frs.length - sLen d)
   case atStart => exact ⟨n, pe, rfl, Int.le_refl _, by omega, HP, Lib.hid (.inl ⟨rfl, rfl⟩)⟩
   case round =>
    clear HP
    obtain ⟨n', ev, rfl, hn1, hn2, HP, HEV⟩ := hrel
    obtain ⟨wo, rfl⟩ : ∃ wo : World, wo = wr := ⟨_, rfl⟩
    have HN3 := Lib.hid (And.intro hn1 hn2)
    clear hn1 hn2
    obtain ⟨dp, dc, rfl⟩ : ∃ dp dc, u14 = .slice dp ev.length dc := by
     rcases HP.out.own.form with ⟨h1, h2⟩ | ⟨g, c, h1, _⟩
     ·exact ⟨none, 0, by rw [h1, h2]; rfl⟩
     ·exact ⟨_, c, h1⟩
    obtain ⟨U, R, X, hmat, hiU, hiR, hRl, hvU⟩ := HP.out.mat
    obtain ⟨fp, fc, hfv⟩ : ∃ fp fc, X.fv = .slice fp T.frs.length fc := by
     rcases hmat.frow.2 with ⟨h1, h2⟩ | ⟨g, c, cur, h1, _⟩
     ·exact ⟨none, 0, by rw [h1, h2]⟩
     ·exact ⟨_, c, h1⟩
    have m5 : wo.cell? ⟨mb, 5, none⟩ = some (.slice fp T.frs.length fc) := by rw [cell_of hmat.box, ← hfv]; rfl
    by_cases hlt : ev.length < T.frs.length
    ·have hx : n' = n ∧ ∃ x, GE = ev ++ [x] := by
      have hgl := HGL.out
      rcases HEV.out with ⟨e1, e2⟩ | e1
      ·refine ⟨e2, ?_⟩
       subst e1
       rcases HEA.out with h | ⟨x, h⟩ | ⟨y, h⟩
       ·rw [h] at hlt; omega
       ·exact ⟨x, h⟩
       ·rw [h, List.length_append] at hlt; omega
      ·rw [e1] at hlt; omega
     obtain ⟨rfl, x, hGx⟩ := hx
     obtain ⟨g, c, lp, lc, lb, sp, sc, stb, hxf, ⟨f0, _, _, _⟩, _⟩ := hmat.fr hlt
     rw [hfv] at hxf
     injection hxf with e1 _ e3
     subst e1 e3
     have hxv : p.fw ss (T.frs.reverse.getD ev.length default).m = x := by
      rw [← each_get p ss T hlt, HGE.out, hGx]
      simp [List.getD_eq_getElem?_getD]
     obtain ⟨t, hfo⟩ := HOK.out.frok _ (List.mem_reverse.1 (getD_mem (show ev.length < T.frs.reverse.length by simpa using hlt)))
     generalize T.frs.reverse.getD ev.length default = fr at f0 hxv hfo
     have hlo := HV.out.loc hfo
     have hfw := fw_bd HV.out hfo
     have hnb : 0 ≤ n' ∧ n' ≤ 1000000000 := by
      have := HN0.out
      have := HN1.out
      have := HN2.out
      have := HMU.out.2
      omega
     have HWD := Lib.hid (words_in3 ib p ss n' fr.m wo HP.out.inf.now HSS.out hfo.m hlo.2.2.2.1 (by omega) (by omega) (by omega) hnb.1 hnb.2)
     have HXV := Lib.hid hxv
     have HGX := Lib.hid hGx
     have hsum : GE.sum = ev.sum + x := by rw [hGx, List.sum_append]; simp
     rw [hxv] at hfw
     have s1 : IntKind.i64.wrap (ev.sum + x) = ev.sum + x := IntWalk.i64_in _ (by have := HBD.out; have := HROOM.out; omega)
     have q1 : decide ((ev.length : Int) < (T.frs.length : Int)) = true := decide_eq_true (by omega)
     have q2 : decide (ev.length < T.frs.length) = true := decide_eq_true hlt
     have i1 : (0 : Int) ≤ (ev.length : Int) := by omega
     have i2 : (ev.length : Int) < (T.frs.length : Int) := by omega
     have HSUM := Lib.hid hsum
     have HLT := Lib.hid hlt
     clear hGx hxv hfo hlo hfw hnb hsum hmat hiU hiR hRl hvU hfv hlt
     obtain ⟨fmm, hfmm⟩ : ∃ k, fr.m = k := ⟨_, rfl⟩
     rw [hfmm] at f0 HWD HXV
     clear hfmm
     go_wp2_with fail
     refine HWD.out.mono ?_
     rintro e w2 ⟨he, _, hu2, hst2⟩
     have he2 : e = .returned (.int .i64 x) := by
      rw [he, ← HXV.out]
      rfl
     subst he2
     clear he
     have HP2 := Lib.hid (HP.out.ask hu2 hst2)
     clear hu2 hst2 m5 f0 HP HWD
     have hown2 : w2.ownsRow w.heap.size 3 1 (.slice dp ev.length dc) ev.length (ev.map (Value.int .i64)) := HP2.out.own
     have hsz2 := HP2.out.inf.upd.size
     have hevl : ev.length ≤ 300000 := by have := HLT.out; have := HROOM.out; omega
     go_wp2_with (at_builtin; refine stop_here ?_)
     refine Hid.mk ?_
     refine (wpList_append_own_at _ rfl _ _ 108 rfl w.heap.size 3 i0 (.int .i64 0) 1 8 Tryz.underlying108 HI.out HZ0.out HZ1.out HZ2.out rfl (by decide) _ _ _ rfl (hown2.alloc _) ⟨w2.heap.size, 0, none⟩ 1 1 [.int .i64 x] rfl rfl ?c1 ?c2 ?c3 ?c4 ?c5 ?c6)
     case c1 => exact cell_one_new _ _ _
     case c2 => simp [Value.oneCell']
     case c3 => unfold maxLen; omega
     case c4 => omega
     case c5 => simp; omega
     case c6 =>
      intro v' w6 hown6 hgr6 _ hat6
      have HP6 := Lib.hid (HP2.out.push hown6 hgr6 hat6)
      obtain ⟨vp, vc, rfl⟩ : ∃ vp vc, v' = .slice vp (ev.length + 1) vc := by
       rcases hown6.2 with ⟨_, h2⟩ | ⟨g, c, cur, h1, _⟩
       ·omega
       ·exact ⟨_, c, h1⟩
      clear hown2 hown6 hgr6 hat6 hevl hsz2
      go_wp2_with fail
      go_roundw
      case rel => exact ⟨n' + 1, ev ++ [x], by rw [List.sum_append]; simp, by omega, by omega, HP6, Lib.hid (.inr HGX.out.symm)⟩
      case measure =>
       show T.frs.length - (ev.length + 1) < T.frs.length - ev.length
       have := HLT.out
       omega
    ·have hEV : ev = GE ∨ ∃ y, ev = GE ++ [y] := by
      have hgl := HGL.out
      rcases HEV.out with ⟨e1, e2⟩ | e1
      ·subst e1
       rcases HEA.out with h | ⟨x, h⟩ | ⟨y, h⟩
       ·exact .inl h
       ·rw [h, List.length_append] at hgl; simp only [List.length_cons, List.length_nil] at hgl; omega
       ·exact .inr ⟨y, h⟩
      ·exact .inl e1
     have HEV2 := Lib.hid hEV
     have q1 : decide ((ev.length : Int) < (T.frs.length : Int)) = false := decide_eq_false (by omega)
     have q2 : decide (ev.length < T.frs.length) = false := decide_eq_false hlt
     clear hEV HEV hmat hiU hiR hRl hvU hfv hlt
     go_wp2_with fail
     go_loopw [13, 14] (fun c d wr => ∃ (ev2 : List Int), c = .int .i64 ev2.sum ∧ Hid (PkS B w wr ib mb p ss n0 n' T d ev2) ∧ Hid (ev2 = GE ∨ ∃ y, ev2 = GE ++ [y])) (fun _ d _ => sLen d)
     case atStart => exact ⟨ev, rfl, HP, HEV2⟩
     case round =>
      clear HP HEV2 m5 q1 q2
      obtain ⟨ev2, rfl, HP, HEV⟩ := hrel
      obtain ⟨dp2, dc2, rfl⟩ : ∃ dp dc, u14 = .slice dp ev2.length dc := by
       rcases HP.out.own.form with ⟨h1, h2⟩ | ⟨g, c, h1, _⟩
       ·exact ⟨none, 0, by rw [h1, h2]; rfl⟩
       ·exact ⟨_, c, h1⟩
      obtain ⟨U, R, X, hmat, hiU, hiR, hRl, hvU⟩ := HP.out.mat
      obtain ⟨fp, fc, hfv⟩ : ∃ fp fc, X.fv = .slice fp T.frs.length fc := by
       rcases hmat.frow.2 with ⟨h1, h2⟩ | ⟨g, c, cur, h1, _⟩
       ·exact ⟨none, 0, by rw [h1, h2]⟩
       ·exact ⟨_, c, h1⟩
      have m5 : wr.cell? ⟨mb, 5, none⟩ = some (.slice fp T.frs.length fc) := by rw [cell_of hmat.box, ← hfv]; rfl
      by_cases hgt : T.frs.length < ev2.length
      ·have hy : ∃ y, ev2 = GE ++ [y] := by
        rcases HEV.out with h | h
        ·rw [h, HGL.out] at hgt; omega
        ·exact h
       obtain ⟨y, rfl⟩ := hy
       obtain ⟨L, hL⟩ : ∃ L, (GE ++ [y]).length = L := ⟨_, rfl⟩
       obtain ⟨es, hes⟩ : ∃ es, (GE ++ [y]).sum = es := ⟨_, rfl⟩
       have hL2 : L = GE.length + 1 := by rw [← hL, List.length_append]; rfl
       have hes2 : es = GE.sum + y := by rw [← hes, List.sum_append]; simp
       obtain ⟨g, hdp, hLc, hgc⟩ : ∃ g, dp2 = some ⟨g, 0, none⟩ ∧ L ≤ dc2 ∧ wr.cell? ⟨g, GE.length, none⟩ = some (.int .i64 y) := by
        rcases HP.out.own.form with ⟨_, h2⟩ | ⟨g, c, h1, h2, _, _, h5⟩
        ·simp at h2
        ·injection h1 with e1 _ e3
         refine ⟨g, e1, by rw [← hL, e3]; exact h2, ?_⟩
         have h6 := h5 GE.length (by rw [List.length_append]; simp)
         rw [h6]
         simp [List.getD_eq_getElem?_getD]
       subst hdp
       have HPP := HP.out
       rw [hL] at HPP hgt ⊢
       rw [hes]
       have HP2 := Lib.hid HPP.pop
       have hq := HBD.out
       have hr := HROOM.out
       have hgl := HGL.out
       have hL3 : (L : Int) - 1 = (GE.length : Int) := by omega
       obtain ⟨q, hq0⟩ : ∃ q, GE.length = q := ⟨_, rfl⟩
       rw [hq0] at hgc HP2 hL3 hgl
       have HQ0 := Lib.hid hq0
       obtain ⟨gs, hgs⟩ : ∃ gs, GE.sum = gs := ⟨_, rfl⟩
       rw [hgs] at hes2 hq
       have HGS := Lib.hid hgs
       have hqq : es - y = gs := by omega
       have s2 : IntKind.i64.wrap (es - y) = gs := by rw [hqq]; exact IntWalk.i64_in _ (by omega)
       have s1 : IntKind.i64.wrap ((L : Int) - 1) = (q : Int) := by rw [hL3]; exact IntWalk.i64_in _ (by omega)
       have i1 : (0 : Int) ≤ (q : Int) := by omega
       have i2 : (q : Int) < (L : Int) := by omega
       have i3 : (q : Int) ≤ (dc2 : Int) := by omega
       have i4 : q < L := by omega
       have i5 : q ≤ dc2 := by omega
       have q1 : decide ((L : Int) > (T.frs.length : Int)) = true := decide_eq_true (by omega)
       have q2 : decide (T.frs.length < L) = true := decide_eq_true hgt
       clear hL hes hL2 hes2 HPP hq hr hgl hL3 hq0 hgs hqq hmat hiU hiR hRl hvU hfv HEV HP hgt hLc
       go_wp2_with fail
       go_roundw
       case rel => exact ⟨GE, by rw [HGS.out], HP2, Lib.hid (.inl rfl)⟩
       case measure => exact i4
      ·have hev : ev2 = GE := by
        rcases HEV.out with h | ⟨y, h⟩
        ·exact h
        ·exfalso
         have := HGL.out
         rw [h, List.length_append] at hgt
         simp only [List.length_cons, List.length_nil] at hgt
         omega
       obtain ⟨op, oc, hov⟩ : ∃ op oc, X.ov = .slice op T.objs.length oc := by
        rcases hmat.orow.2 with ⟨h1, h2⟩ | ⟨g, c, cur, h1, _⟩
        ·exact ⟨none, 0, by rw [h1, h2]⟩
        ·exact ⟨_, c, h1⟩
       have m6 : wr.cell? ⟨mb, 6, none⟩ = some (.slice op T.objs.length oc) := by rw [cell_of hmat.box, ← hov]; rfl
       have q1 : decide ((ev2.length : Int) > (T.frs.length : Int)) = false := decide_eq_false (by omega)
       have q2 : decide (T.frs.length < ev2.length) = false := decide_eq_false hgt
       have HST := Lib.hid (mstep_any hmat HV.out HOK.out)
       have HIU := Lib.hid hiU
       have HIR := Lib.hid hiR
       have HRL := Lib.hid hRl
       have HVU := Lib.hid hvU
       obtain ⟨es, hes⟩ : ∃ es, ev2.sum = es := ⟨_, rfl⟩
       rw [hes]
       have HES := Lib.hid hes
       have HEV2 := Lib.hid hev
       clear hmat hiU hiR hRl hvU hfv hov hev hes HEV hgt
       go_upto_region 15 with fail
       obtain ⟨T', hT'⟩ : ∃ T', T.step p = T' := ⟨_, rfl⟩
       obtain ⟨mo2, hmo2⟩ : ∃ mo2, T'.fin.isNone = mo2 := ⟨_, rfl⟩
       rw [hT', hmo2] at HST
       have HT1 : Hid (Mc.steps p (j + 1) S0 = T') := by
        show _ = _
        rw [steps_succ, HT.out, hT']
       have HOK' : Hid (T'.Ok p ss) := by
        rw [← hT']
        exact (HOK.out.step HV.out).1
       have HMU' : Hid (T'.fin = none → T'.mu p < T.mu p) := by
        rw [← hT']
        exact (HOK.out.step HV.out).2 HFE.out
       obtain ⟨f0, bl0, hf0⟩ := List.exists_cons_of_ne_nil (HOK.out.live HFE.out)
       have HER' : Hid (EachR GE (T'.each p ss)) := by
        rw [← hT', ← HGE.out]
        exact step_each HFE.out hf0
       have HPK' : Hid (T'.fin ≠ none → Mc.pkF p ss (j + 1) S0 = Mc.pkB p ss (j + 1) S0) := fun hne => by
        refine pkB_end (f := f0) (below := bl0) (by rw [HT.out]; exact HFE.out) (by rw [HT.out]; exact hf0) ?_
        rw [HT.out, hT']
        exact hne
       have HB1 : Hid (Mc.pkB p ss (j + 1) S0 = max sa es) := by
        show max (Mc.pkB p ss j S0) ((Mc.steps p j S0).wsum p ss) = _
        rw [HSA.out, HT.out, ← each_sum, HGE.out, ← HEV2.out, HES.out]
       have HPE1 : Hid (prevE p ss S0 (j + 1) = ev2) := by
        show (Mc.steps p j S0).each p ss = _
        rw [HT.out, HGE.out, HEV2.out]
       have HO1 : Hid (Mc.pkO p (j + 1) S0 = max wa (if T.objs.length < T'.objs.length then T'.reachW p else 0)) := by
        show max (Mc.pkO p j S0) (if (Mc.steps p j S0).objs.length < (Mc.steps p (j + 1) S0).objs.length then (Mc.steps p (j + 1) S0).reachW p else 0) = _
        rw [HWA.out, HT.out, HT1.out]
       have HWN : Hid (0 ≤ wa) := by
        rw [← HWA.out]
        exact pkO_nn p S0 j
       have HMO := Lib.hid hmo2
       clear hT' hmo2 hf0
       go_wp2_with fail
       refine HST.out.mono ?_
       rintro e w5 ⟨rfl, hstp⟩
       have HP5 := Lib.hid (PkS.stp HIU.out HIR.out HRL.out HVU.out HP.out.inf HP.out.own hstp)
       clear hstp m5 m6 q1 q2 HST HP
       obtain ⟨U5, R5, X5, hm5, _⟩ := HP5.out.mat
       obtain ⟨op5, oc5, hov5⟩ : ∃ op oc, X5.ov = .slice op T'.objs.length oc := by
        rcases hm5.orow.2 with ⟨h1, h2⟩ | ⟨g, c, cur, h1, _⟩
        ·exact ⟨none, 0, by rw [h1, h2]⟩
        ·exact ⟨_, c, h1⟩
       have m6 : w5.cell? ⟨mb, 6, none⟩ = some (.slice op5 T'.objs.length oc5) := by rw [cell_of hm5.box, ← hov5]; rfl
       have HWD := Lib.hid (words_any hm5 HV.out HOK'.out)
       have HM5 := Lib.hid hm5.mu
       clear hm5 hov5
       have HFIN : Hid (∀ (w6 : World), Hid (PkS B w w6 ib mb p ss n0 n' T' (.slice dp2 ev2.length dc2) ev2) → (match Value.bool mo2 with | .bool true => muW p w6 mb + 1 | _ => 0) < muW p wx mb + 1) := fun w6 h6 => by
        cases mo2 with
        | false => exact Nat.succ_pos _
        | true =>
         obtain ⟨_, _, _, h1, _⟩ := h6.out.mat
         show muW p w6 mb + 1 < _
         rw [h1.mu, HMUX.out]
         have := HMU'.out (by
          cases h : T'.fin with
          | none => rfl
          | some F => have h2 := HMO.out; rw [h] at h2; cases h2)
         omega
       have HREL : Hid (∀ (w6 : World) (a : Int), a = Mc.pkO p (j + 1) S0 → Hid (PkS B w w6 ib mb p ss n0 n' T' (.slice dp2 ev2.length dc2) ev2) → ∃ (j : Nat) (n : Int), Value.int .i64 a = .int .i64 (Mc.pkO p j S0) ∧ Value.int .i64 (max sa es) = .int .i64 (Mc.pkB p ss j S0) ∧ Value.int .i64 es = .int .i64 (prevE p ss S0 j).sum ∧ Value.bool mo2 = .bool (Mc.steps p j S0).fin.isNone ∧ n0 ≤ n ∧ n ≤ n0 + j ∧ Hid (PkS B w w6 ib mb p ss n0 n (Mc.steps p j S0) (.slice dp2 ev2.length dc2) (prevE p ss S0 j)) ∧ Hid ((Mc.steps p j S0).Ok p ss) ∧ Hid (((Mc.steps p j S0).fin = none → (Mc.steps p j S0).mu p + j ≤ 300000) ∧ j ≤ 300001) ∧ Hid (EachR (prevE p ss S0 j) ((Mc.steps p j S0).each p ss) ∨ (Mc.steps p j S0).fin ≠ none) ∧ Hid ((Mc.steps p j S0).fin ≠ none → Mc.pkF p ss j S0 = Mc.pkB p ss j S0)) := fun w6 a ha h6 => by
        refine ⟨j + 1, n', by rw [ha], by rw [HB1.out], by rw [HPE1.out, HES.out], by rw [HT1.out, HMO.out], ?_, ?_, ?_, ?_, ?_, ?_, ?_⟩
        ·have := HN1.out; have := HN3.out; omega
        ·have := HN2.out; have := HN3.out; omega
        ·rw [HT1.out, HPE1.out]; exact h6
        ·rw [HT1.out]; exact HOK'
        ·rw [HT1.out]
         have h1 := HJ.out
         exact Lib.hid ⟨fun h => by have := HMU'.out h; omega, by omega⟩
        ·rw [HT1.out, HPE1.out, HEV2.out]
         exact Lib.hid (.inl HER'.out)
        ·rw [HT1.out]; exact HPK'
       by_cases hob : T.objs.length < T'.objs.length
       ·have q1 : decide ((T'.objs.length : Int) > (T.objs.length : Int)) = true := decide_eq_true (by omega)
        have q2 : decide (T.objs.length < T'.objs.length) = true := decide_eq_true hob
        have HO2 : Hid (max wa (T'.reachW p) = Mc.pkO p (j + 1) S0) := by
         show _ = _
         rw [HO1.out, if_pos hob]
        clear hob
        go_wp2_with fail
        refine HWD.out.mono ?_
        rintro e w6 ⟨rfl, hu6⟩
        have HP6 := Lib.hid (HP5.out.keep hu6)
        clear hu6 q1 q2 m6 HP5 HWD
        go_wp2_with fail
        go_roundw
        case rel => exact HREL.out _ _ HO2.out HP6
        case measure => exact HFIN.out _ HP6
       ·have q1 : decide ((T'.objs.length : Int) > (T.objs.length : Int)) = false := decide_eq_false (by omega)
        have q2 : decide (T.objs.length < T'.objs.length) = false := decide_eq_false hob
        have HO2 : Hid (wa = Mc.pkO p (j + 1) S0) := by
         show _ = _
         rw [HO1.out, if_neg hob]
         have := HWN.out
         omega
        clear hob HWD
        go_wp2_with fail
        go_roundw
        case rel => exact HREL.out _ _ HO2.out HP5
        case measure => exact HFIN.out _ HP5
end Go.Proofs.YtojobkhidlfeoaaGreatDoor
