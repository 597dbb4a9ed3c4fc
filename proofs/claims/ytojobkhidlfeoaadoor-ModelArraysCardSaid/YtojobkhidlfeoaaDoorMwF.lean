/- prog.Back; model: Machine.jump. model: Machine.ret. -/
import Derived.Test.YtojobkhidlfeoaaDoorMwD
import Derived.Test.YtojobkhidlfeoaaDoorPin
/-! prog.Back; model: Machine.jump. -/
namespace Go.Proofs.YtojobkhidlfeoaaDoor
open Go.RowKit

set_option maxRecDepth 100000 in
set_option maxHeartbeats 1000000 in
theorem pback_any (m : Meth) (x : Ins) (ka : Option Addr) (kc pc : Nat) (w : World) (hc : CodeAt w (.slice ka m.code.length kc) m.code) (hpc : pc < m.code.length) (hx : m.code.getD pc default = x) (hop : x.op = 22 ∨ x.op = 23) :
  Calls Tryd.prog 43 #[.agg #[.string m.params, .string m.locals, .string m.ret, .slice ka m.code.length kc], .int .i64 pc] w fun e w' => e = .returned (.bool (decide (x.a ≤ pc))) ∧ Upd [] w w' := by
 obtain ⟨a, cap, he, hl1, hl2, hcx⟩ := id hc
 injection he with e1 _ e3
 subst e1 e3
 obtain ⟨b, o, hab, hbd, hins⟩ := hcx pc hpc
 subst hab
 rw [hx] at hins
 obtain ⟨x0, x1, x2, x3⟩ := hins
 have hd : decide (0 ≤ (pc : Int) ∧ (pc : Int) < (m.code.length : Int)) = true := by rw [decide_eq_true_eq]; omega
 have HP := Lib.hid (fun W => pin_any pc m.code.length W)
 rw [hd] at HP
 have hu := (Upd.refl [] w).alloc (.cells #[.string m.params, .string m.locals, .string m.ret, .slice (some ⟨b, o, none⟩) m.code.length kc] 32)
 have y0 := hu.cell x0 (by simp)
 have y1 := hu.cell x1 (by simp)
 have y2 := hu.cell x2 (by simp)
 have y3 := hu.cell x3 (by simp)
 have hA := heap_alloc_new w (.cells #[.string m.params, .string m.locals, .string m.ret, .slice (some ⟨b, o, none⟩) m.code.length kc] 32)
 have HU := Lib.hid hu
 clear hc hcx x0 x1 x2 x3 hx hbd hu hd hl1 hl2
 obtain ⟨op, xa, xb, xn⟩ := x
 generalize hml : m.code.length = n at *
 clear hml
 go_enter Tryd.func43, Tryd.ntmps43
 go_upto_region 1 with fail
 generalize w.alloc (.cells #[.string m.params, .string m.locals, .string m.ret, .slice (some ⟨b, o, none⟩) n kc] 32) = w1 at y0 y1 y2 y3 hA HU ⊢
 have a3 : w1.cell? ⟨w.heap.size, 3, none⟩ = some (.slice (some ⟨b, o, none⟩) n kc) := by rw [cell_of hA]; rfl
 clear hA
 simp only at hop y0 y1 y2 y3
 go_wp2_with fail
 refine (HP.out _).mono ?_
 rintro e w2 ⟨rfl, rfl⟩
 have hpi : (pc : Int) < (n : Int) := by omega
 have HU2 := Lib.hid (HU.out.alloc (.cells #[.int .i64 op, .int .i64 xa, .int .i64 xb, .int .i64 xn] 29))
 rcases hop with rfl | rfl
 ·go_wp2_with fail
  go_ret
  exact ⟨rfl, HU2.out⟩
 ·go_wp2_with fail
  go_ret
  exact ⟨rfl, HU2.out⟩
-- JUMP

section
variable {B : Nat} {w : World} {U R : List Nat} {mb ib : Nat} {p : Prg} {S : Mc} {X : MX} {f : Fm} {below : List Fm}
/-- The stack of the frame on top, cut. -/
theorem MAt.stCut (h : MAt B w U R mb ib p S X) {g : FmV} {gb : List FmV} {sp : Option Addr} {sc : Nat} (hf : S.frs = f :: below) (hg : X.gs = g :: gb) (hsv : g.sv = .slice sp f.stk.length sc) (k c' : Nat) (hc : f.stk.length - k ≤ c') (hm : c' ≤ maxLen) (hn : sp = none → c' = 0) :
  StV w R (blks (X.gs.map FmV.lv)) (blks X.os) (.slice sp (f.stk.length - k) c') (cutV f.stk k) := by
 have hst0 := h.stk 0 (by rw [hf]; simp)
 rw [hf] at hst0
 have e : X.gs.getD 0 default = g := by rw [hg]; rfl
 rw [e] at hst0
 have hst1 : StV w R (blks (X.gs.map FmV.lv)) (blks X.os) g.sv f.stk := hst0
 have hlen : (cutV f.stk k).length = f.stk.length - k := by unfold cutV; rw [List.length_take]; omega
 obtain ⟨b, h1, h2⟩ := hst1.read
 rw [hsv] at h1
 refine ⟨⟨b, ?_, fun hne => h2 (fun e => hne (by unfold cutV; rw [e]; simp))⟩, ⟨sp, c', by rw [hlen], by omega, hm, hn⟩⟩
 have h3 := h1.take (f.stk.length - k) c'
 unfold cutV
 rwa [List.length_take, Nat.min_eq_left (by omega)] at h3
/-- A value on top of the stack. -/
theorem MAt.tv (h : MAt B w U R mb ib p S X) {g : FmV} {gb : List FmV} (hf : S.frs = f :: below) (hg : X.gs = g :: gb) {i : Nat} (hi : i < f.stk.length) : ∃ b sc, g.sv = .slice (some ⟨b, 0, none⟩) f.stk.length sc ∧ w.cell? ⟨b, (f.stk.length - 1 - i) * 2, none⟩ = some (.bool (tp f.stk i).ref) ∧ w.cell? ⟨b, (f.stk.length - 1 - i) * 2 + 1, none⟩ = some (.int .i64 (tp f.stk i).n) := by
 obtain ⟨b, hread, _⟩ := (h.stk 0 (by rw [hf]; simp)).read
 rw [hf, hg] at hread
 have hread2 : VlV w g.sv b 0 f.stk := hread
 obtain ⟨⟨p', c', he, hp⟩, hcell⟩ := hread2
 have hne : f.stk ≠ [] := fun e => by rw [e] at hi; simp at hi
 obtain ⟨x0, x1⟩ := hcell (f.stk.length - 1 - i) (by omega)
 rw [Nat.zero_add] at x0 x1
 exact ⟨b, c', by rw [he, hp hne], x0, x1⟩
/-- The stack, then the place of the frame on top are written. -/
theorem MAt.setTop2 (h : MAt B w U R mb ib p S X) {g : FmV} {gb : List FmV} {fb c : Nat} (hf : S.frs = f :: below) (hg : X.gs = g :: gb) (hfv : X.fv = .slice (some ⟨fb, 0, none⟩) (below.length + 1) c) (sv' : Value) (stk' : List Vl) (pc' : Nat) (hst : StV w R (blks (X.gs.map FmV.lv)) (blks X.os) sv' stk') :
  MAt B ((w.setCell ⟨fb, below.length * 4 + 3, none⟩ sv').setCell ⟨fb, below.length * 4 + 1, none⟩ (.int .i64 pc')) U R mb ib p { S with frs := ⟨f.m, pc', f.loc, stk'⟩ :: below } { X with gs := ⟨g.lv, sv'⟩ :: gb } ∧ Upd [fb] w ((w.setCell ⟨fb, below.length * 4 + 3, none⟩ sv').setCell ⟨fb, below.length * 4 + 1, none⟩ (.int .i64 pc')) := by
 have h1 := h.setTop (f' := { f with stk := stk' }) (g' := ⟨g.lv, sv'⟩) (k := 3) (u := sv') hf hg hfv (by omega) rfl rfl rfl hst
 have hst2 := h1.1.stk 0 (by simp)
 have h2 := h1.1.setTop (f := { f with stk := stk' }) (f' := ⟨f.m, pc', f.loc, stk'⟩) (g := ⟨g.lv, sv'⟩) (g' := ⟨g.lv, sv'⟩) (below := below) (gb := gb) (k := 1) (u := .int .i64 pc') rfl rfl hfv (by omega) rfl rfl rfl hst2
 exact ⟨h2.1, h1.2.trans h2.2⟩
/-- The place alone. -/
theorem MAt.setPc (h : MAt B w U R mb ib p S X) {g : FmV} {gb : List FmV} {fb c : Nat} (hf : S.frs = f :: below) (hg : X.gs = g :: gb) (hfv : X.fv = .slice (some ⟨fb, 0, none⟩) (below.length + 1) c) (pc' : Nat) :
  MAt B (w.setCell ⟨fb, below.length * 4 + 1, none⟩ (.int .i64 pc')) U R mb ib p { S with frs := { f with pc := pc' } :: below } X ∧ Upd [fb] w (w.setCell ⟨fb, below.length * 4 + 1, none⟩ (.int .i64 pc')) := by
 have hst := h.stk 0 (by rw [hf]; simp)
 rw [hf] at hst
 have e : X.gs.getD 0 default = g := by rw [hg]; rfl
 rw [e] at hst
 have h2 := h.setTop (f' := { f with pc := pc' }) (g' := g) (k := 1) (u := .int .i64 pc') hf hg hfv (by omega) rfl rfl rfl hst
 rw [← hg] at h2
 exact h2
/-- Blocks were made, then the machine's own were written. -/
theorem MAt.fin {w1 w2 : World} {S' : Mc} {X' : MX} {T : List Nat} (hu : Upd R w w1) (h1 : MAt B w2 (U ++ news w w1) (R ++ news w w1) mb ib p S' X') (hu2 : Upd T w1 w2) (hz : w2.heap.size = w1.heap.size) (hT : ∀ b ∈ T, b ∈ R) : (∃ X', MAt B w2 (U ++ news w w2) (R ++ news w w2) mb ib p S' X') ∧ Upd R w w2 := by
 rw [news_same hz]
 exact ⟨⟨_, h1⟩, hu.trans' hu2 (fun b hb _ => hT b hb)⟩

set_option maxRecDepth 100000 in
set_option maxHeartbeats 4000000 in
theorem mjump_any {x : Ins} {t : List UInt8} {ss : List Lk} (h : MAt B w U R mb ib p S X) (ok : p.Ok) (a : At p ss S f x t) (hf : S.frs = f :: below) (hfin : S.fin = none) {fb c : Nat} (hfv : X.fv = .slice (some ⟨fb, 0, none⟩) (below.length + 1) c) (hop : x.op = 22 ∨ x.op = 23) (hn : f.stk.length ≤ 1000) :
  Calls Tryd.prog 31 #[.pointer (some ⟨mb, 0, none⟩), .pointer (some ⟨fb, below.length * 4, none⟩), .agg #[.int .i64 x.op, .int .i64 x.a, .int .i64 x.b, .int .i64 x.n]] w fun e w' => e = .returned (.tuple #[]) ∧ (∃ X', MAt B w' (U ++ news w w') (R ++ news w w') mb ib p (S.stepF p below f) X') ∧ Upd R w w' := by
 have hfm := a.fr.m
 have hfpc := a.fr.pc
 have hja := a.ins.jmp hop
 have hxe := a.xe
 unfold Prg.at_ at hxe
 have hfu := a.ok.fuel
 have hstep : S.stepF p below f = (if x.op = 23 ∧ (tp f.stk 0).n ≠ 0 then S.put below { f with stk := cutV f.stk 1, pc := f.pc + 1 }
   else if x.a ≤ f.pc ∧ S.fuel = 0 then S.stop 3 0 f
   else { S.put below { f with stk := if x.op = 23 then cutV f.stk 1 else f.stk, pc := x.a.toNat } with fuel := if x.a ≤ f.pc then S.fuel - 1 else S.fuel }) := by
  unfold Mc.stepF
  simp only
  rw [← a.xe, if_pos hop]
 have hlen : x.op = 23 → 1 ≤ f.stk.length := fun e => by
  have he : effL p (p.ms.getD f.m default) x = some ([73], []) := by unfold effL; simp [e, lI]
  exact (a.eff (by omega) (by omega) (by omega) he).1
 clear a
 obtain ⟨g, gb, fb2, c2, hg, hgl, hfv2, _, _, hR, ⟨fq, hfq⟩, c0, c1, _, c3⟩ := h.top hf
 rw [hfv] at hfv2
 injection hfv2 with e1 _ e3
 injection e1 with e1
 injection e1 with e1
 subst e1 e3
 obtain ⟨_, sp, sc, hsv, hs1, hs2, hs3⟩ := h.topV hf hg
 rw [hsv] at c3
 obtain ⟨mbb, mo, mc, ka, kc, hmU, hmv, d0, d1, d2, d3, hco⟩ := h.methU hfm
 have hb := h.box
 rw [mccells, hmv] at hb
 have n2 : w.cell? ⟨mb, 2, none⟩ = some (.slice (some ⟨mbb, mo, none⟩) p.ms.length mc) := by rw [cell_of hb]; rfl
 have HST := Lib.hid (fun k c' hc hm hn => h.stCut (p := p) hf hg hsv k c' hc hm hn)
 have HH := Lib.hid h
 have HF := Lib.hid hf
 have HG := Lib.hid hg
 have HFV := Lib.hid hfv
 have HFIN := Lib.hid hfin
 have HHLT : Hid (∀ b ∈ R, b < w.heap.size) := fun b hb => (h.low b hb).2
 have HTV : Hid (x.op = 23 → ∃ b, sp = some ⟨b, 0, none⟩ ∧ w.cell? ⟨b, (f.stk.length - 1) * 2 + 1, none⟩ = some (.int .i64 (tp f.stk 0).n)) := fun e => by
  obtain ⟨b, sc', h1, _, h3⟩ := h.tv hf hg (i := 0) (by have := hlen e; omega)
  rw [hsv] at h1
  injection h1 with h1
  exact ⟨b, h1, h3⟩
 have hcode : (p.ms.getD f.m default).code.getD f.pc default = x := hxe.symm
 have HBK : Hid (∀ W, Upd [] w W → Calls Tryd.prog 43 #[.agg #[.string (p.ms.getD f.m default).params, .string (p.ms.getD f.m default).locals, .string (p.ms.getD f.m default).ret, .slice ka (p.ms.getD f.m default).code.length kc], .int .i64 f.pc] W fun e W' => e = .returned (.bool (decide (x.a ≤ f.pc))) ∧ Upd [] W W') := fun W hW => pback_any (p.ms.getD f.m default) x ka kc f.pc W (hco.upd hW) hfpc hcode hop
 have HMV := Lib.hid hmv
 have HNE : Hid (fb ≠ mb ∧ mbb ≠ mb ∧ mb < w.heap.size) := ⟨fun e => by subst e; exact absurd (typ_ne hfq h.box) (by decide), fun e => hmU (by rw [e]; exact h.sub mb h.mine), (h.low mb h.mine).2⟩
 have HML := Lib.hid hfm
 have HRF : Hid (fb ∈ R) := hR
 have HPC : Hid (f.pc < 120) := by have := (headK ok hfm).2.2.2.1; show f.pc < 120; omega
 clear h hf hg hfv hfin hb hco hxe hcode hR ok hfm hmU
 rw [hstep]
 clear hstep
 obtain ⟨op, xa, xb, xn⟩ := x
 simp only at *
 have HSV := Lib.hid hsv
 generalize hme : p.ms.getD f.m default = me at d0 d1 d2 d3 hfpc hja HBK
 have hu1 := (Upd.refl [] w).alloc (.cells #[.int .i64 op, .int .i64 xa, .int .i64 xb, .int .i64 xn] 29)
 have hA := heap_alloc_new w (.cells #[.int .i64 op, .int .i64 xa, .int .i64 xb, .int .i64 xn] 29)
 have HU1 := Lib.hid hu1
 by_cases hA1 : op = 23 ∧ (tp f.stk 0).n ≠ 0
 ·rw [if_pos hA1]
  obtain ⟨rfl, hnz⟩ := hA1
  obtain ⟨b, rfl, xv⟩ := HTV.out rfl
  have hl1 := hlen rfl
  have hnz2 : ((tp f.stk 0).n != 0) = true := by rw [bne_iff_ne]; exact hnz
  have v0 := hu1.cell c0 (by simp)
  have v1 := hu1.cell c1 (by simp)
  have v3 := hu1.cell c3 (by simp)
  have vx := hu1.cell xv (by simp)
  have vq := hu1.heap hfq (by simp)
  have s1 : IntKind.i64.wrap ((f.stk.length : Int) - 1) = ((f.stk.length - 1 : Nat) : Int) := by rw [IntWalk.i64_in _ (by omega)]; omega
  have hpc2 := HPC.out
  have s2 : IntKind.i64.wrap ((f.pc : Int) + 1) = ((f.pc + 1 : Nat) : Int) := by rw [IntWalk.i64_in _ (by omega)]; omega
  have hl2 : f.stk.length - 1 < f.stk.length := by omega
  have hl3 : f.stk.length - 1 ≤ sc := by omega
  clear c0 c1 c3 xv n2 d0 d1 d2 d3 hu1 hnz hsv HBK
  generalize (tp f.stk 0).n = tn at *
  go_enter Tryd.func31, Tryd.ntmps31
  go_upto_region 1 with fail
  generalize w.alloc (.cells #[.int .i64 23, .int .i64 xa, .int .i64 xb, .int .i64 xn] 29) = w1 at *
  have x0 : w1.cell? ⟨w.heap.size, 0, none⟩ = some (.int .i64 23) := by rw [cell_of hA]; rfl
  have z3 := froz_of vq (below.length * 4 + 3)
  have z1 := froz_of vq (below.length * 4 + 1)
  go_wp2_with fail
  refine bodyPost_ret (results_none rfl _ _ _) rfl ?_
  have hW1 := HH.out.new HU1.out
  have hst := hW1.stCut HF.out HG.out HSV.out 1 sc hl3 hs2 (fun e => by cases e)
  have hT2 := hW1.setTop2 HF.out HG.out HFV.out (.slice (some ⟨b, 0, none⟩) (f.stk.length - 1) sc) (cutV f.stk 1) (f.pc + 1) hst
  rw [Int.natCast_add, Int.natCast_one] at hT2
  exact ⟨rfl, MAt.fin (HU1.out.mono (by simp)) hT2.1 hT2.2 (by rw [size_set, size_set]) (fun b hb => by rw [List.mem_singleton] at hb; rw [hb]; exact HRF.out)⟩
 ·rw [if_neg hA1]
  have HJA := Lib.hid hja
  rcases hop with rfl | rfl
  ·clear HTV hlen hA1
   have v3 := hu1.cell c3 (by simp)
   have vq := hu1.heap hfq (by simp)
   have s1 : IntKind.i64.wrap ((f.stk.length : Int) - 1) = (f.stk.length : Int) - 1 := IntWalk.i64_in _ (by omega)
   have HKQ : Hid (∀ W, Upd [] (w.alloc (.cells #[.int .i64 22, .int .i64 xa, .int .i64 xb, .int .i64 xn] 29)) W → (W.cell? ⟨mb, 2, none⟩ = some (.slice (some ⟨mbb, mo, none⟩) p.ms.length mc) ∧ W.cell? ⟨fb, below.length * 4, none⟩ = some (.int .i64 f.m) ∧ W.cell? ⟨fb, below.length * 4 + 1, none⟩ = some (.int .i64 f.pc) ∧ W.cell? ⟨mbb, mo + f.m * 4, none⟩ = some (.string me.params) ∧ W.cell? ⟨mbb, mo + f.m * 4 + 1, none⟩ = some (.string me.locals) ∧ W.cell? ⟨mbb, mo + f.m * 4 + 2, none⟩ = some (.string me.ret) ∧ W.cell? ⟨mbb, mo + f.m * 4 + 3, none⟩ = some (.slice ka me.code.length kc)) ∧ Hid (W.cell? ⟨w.heap.size, 0, none⟩ = some (.int .i64 22) ∧ W.cell? ⟨w.heap.size, 1, none⟩ = some (.int .i64 xa) ∧ W.cell? ⟨fb, below.length * 4 + 3, none⟩ = some (.slice sp f.stk.length sc) ∧ W.frozen? ⟨fb, below.length * 4 + 3, none⟩ = false ∧ W.frozen? ⟨fb, below.length * 4 + 1, none⟩ = false ∧ Upd R w W) ∧ Hid (MAt B W (U ++ news w W) (R ++ news w W) mb ib p S X) ∧ Hid (Upd [] w W)) := fun W hW1 => by
    have hW := hu1.trans hW1
    have hq := hW.heap hfq (by simp)
    have hx := hW1.heap hA (by simp)
    exact ⟨⟨hW.cell n2 (by simp), hW.cell c0 (by simp), hW.cell c1 (by simp), hW.cell d0 (by simp), hW.cell d1 (by simp), hW.cell d2 (by simp), hW.cell d3 (by simp)⟩, ⟨by rw [cell_of hx]; rfl, by rw [cell_of hx]; rfl, hW.cell c3 (by simp), froz_of hq _, froz_of hq _, hW.mono (by simp)⟩, HH.out.new hW, hW⟩
   have HKB : Hid (∀ W W', (W.cell? ⟨mb, 2, none⟩ = some (.slice (some ⟨mbb, mo, none⟩) p.ms.length mc) ∧ W.cell? ⟨fb, below.length * 4, none⟩ = some (.int .i64 f.m) ∧ W.cell? ⟨fb, below.length * 4 + 1, none⟩ = some (.int .i64 f.pc) ∧ W.cell? ⟨mbb, mo + f.m * 4, none⟩ = some (.string me.params) ∧ W.cell? ⟨mbb, mo + f.m * 4 + 1, none⟩ = some (.string me.locals) ∧ W.cell? ⟨mbb, mo + f.m * 4 + 2, none⟩ = some (.string me.ret) ∧ W.cell? ⟨mbb, mo + f.m * 4 + 3, none⟩ = some (.slice ka me.code.length kc)) → Hid (W.cell? ⟨w.heap.size, 0, none⟩ = some (.int .i64 22) ∧ W.cell? ⟨w.heap.size, 1, none⟩ = some (.int .i64 xa) ∧ W.cell? ⟨fb, below.length * 4 + 3, none⟩ = some (.slice sp f.stk.length sc) ∧ W.frozen? ⟨fb, below.length * 4 + 3, none⟩ = false ∧ W.frozen? ⟨fb, below.length * 4 + 1, none⟩ = false ∧ Upd R w W) → Upd [mb] W W' → W'.cell? ⟨mb, 2, none⟩ = some (.slice (some ⟨mbb, mo, none⟩) p.ms.length mc) → Hid (∃ q, W.heap[fb]? = some (.cells q 82)) → (W'.cell? ⟨mb, 2, none⟩ = some (.slice (some ⟨mbb, mo, none⟩) p.ms.length mc) ∧ W'.cell? ⟨fb, below.length * 4, none⟩ = some (.int .i64 f.m) ∧ W'.cell? ⟨fb, below.length * 4 + 1, none⟩ = some (.int .i64 f.pc) ∧ W'.cell? ⟨mbb, mo + f.m * 4, none⟩ = some (.string me.params) ∧ W'.cell? ⟨mbb, mo + f.m * 4 + 1, none⟩ = some (.string me.locals) ∧ W'.cell? ⟨mbb, mo + f.m * 4 + 2, none⟩ = some (.string me.ret) ∧ W'.cell? ⟨mbb, mo + f.m * 4 + 3, none⟩ = some (.slice ka me.code.length kc)) ∧ Hid (W'.cell? ⟨w.heap.size, 0, none⟩ = some (.int .i64 22) ∧ W'.cell? ⟨w.heap.size, 1, none⟩ = some (.int .i64 xa) ∧ W'.cell? ⟨fb, below.length * 4 + 3, none⟩ = some (.slice sp f.stk.length sc) ∧ W'.frozen? ⟨fb, below.length * 4 + 3, none⟩ = false ∧ W'.frozen? ⟨fb, below.length * 4 + 1, none⟩ = false ∧ Upd R w W')) := fun W W' hs hp hu hm hq => by
    obtain ⟨hn1, hn2, hn3⟩ := HNE.out
    obtain ⟨q, hq⟩ := hq.out
    have m1 : fb ∉ [mb] := by simp [hn1]
    have m2 : mbb ∉ [mb] := by simp [hn2]
    have m3 : w.heap.size ∉ [mb] := by simp; omega
    obtain ⟨_, r1, r2, r3, r4, r5, r6⟩ := hs
    obtain ⟨p0, p1, p2, p3, p4, p5⟩ := hp.out
    have hq' := hu.heap hq m1
    exact ⟨⟨hm, hu.cell r1 m1, hu.cell r2 m1, hu.cell r3 m2, hu.cell r4 m2, hu.cell r5 m2, hu.cell r6 m2⟩, ⟨hu.cell p0 m3, hu.cell p1 m3, hu.cell p2 m1, froz_of hq' _, froz_of hq' _, p5.trans' hu (fun b hb _ => by rw [List.mem_singleton] at hb; rw [hb]; exact HH.out.mine)⟩⟩
   have HFQ : Hid (∀ W, Upd [] w W → Hid (∃ q, W.heap[fb]? = some (.cells q 82))) := fun W hW => ⟨_, hW.heap hfq (by simp)⟩
   clear c0 c1 c3 n2 d0 d1 d2 d3 hu1 hsv
   have hfm2 := HML.out
   by_cases hbk : xa ≤ f.pc
   ·have hd : decide (xa ≤ (f.pc : Int)) = true := decide_eq_true hbk
    rw [hd] at HBK
    cases hk : S.fuel with
    | zero =>
     rw [if_pos ⟨hbk, rfl⟩]
     have HBU : Hid (∀ W, MAt B W (U ++ news w W) (R ++ news w W) mb ib p S X → Calls Tryd.prog 32 #[.pointer (some ⟨mb, 0, none⟩)] W fun e W' => e = .returned (.bool false) ∧ Hid (MAt B W' (U ++ news w W ++ news W W') (R ++ news w W ++ news W W') mb ib p (S.stop 3 0 f) X) ∧ Upd [mb] W W' ∧ W'.cell? ⟨mb, 2, none⟩ = some (.slice (some ⟨mbb, mo, none⟩) p.ms.length mc)) := fun W hW => (mburn_none hW HF.out HFIN.out hk).mono (fun e W' ⟨h1, h2, h3⟩ => ⟨h1, h2, h3, by rw [cell_of h2.box, mccells, HMV.out]; rfl⟩)
     clear hk
     go_enter Tryd.func31, Tryd.ntmps31
     go_upto_region 1 with fail
     generalize w.alloc (.cells #[.int .i64 22, .int .i64 xa, .int .i64 xb, .int .i64 xn] 29) = w1 at *
     have x0 : w1.cell? ⟨w.heap.size, 0, none⟩ = some (.int .i64 22) := by rw [cell_of hA]; rfl
     have k0 := (HKQ.out w1 (Upd.refl [] w1)).1
     go_upto_region 5 with fail
     refine wp_region_noPanic ?_
     refine wp_region_held_drew (S := fun w' => w'.cell? ⟨mb, 2, none⟩ = some (.slice (some ⟨mbb, mo, none⟩) p.ms.length mc) ∧ w'.cell? ⟨fb, below.length * 4, none⟩ = some (.int .i64 f.m) ∧ w'.cell? ⟨fb, below.length * 4 + 1, none⟩ = some (.int .i64 f.pc) ∧ w'.cell? ⟨mbb, mo + f.m * 4, none⟩ = some (.string me.params) ∧ w'.cell? ⟨mbb, mo + f.m * 4 + 1, none⟩ = some (.string me.locals) ∧ w'.cell? ⟨mbb, mo + f.m * 4 + 2, none⟩ = some (.string me.ret) ∧ w'.cell? ⟨mbb, mo + f.m * 4 + 3, none⟩ = some (.slice ka me.code.length kc)) (by kernel_rfl) ?_ (fun hHeld => ?_)
     ·first | exact k0 | exact k1 | exact k2
     refine Nx.start [(0, []), (1, []), (2, []), (3, []), (4, []), (5, []), (6, []), (7, []), (8, []), (9, []), (10, []), (11, []), (12, []), (13, []), (14, [])] ?_
     iterate 15
      refine Nx.h (oi := ?_) (v := ?_) ?_ (by kernel_rfl) (fun _ _ _ h => h) ?_ ?_ hHeld ?_
      rotate_left 2
      ·simp only [List.getElem?_toArray, List.getElem?_cons_zero, List.getElem?_cons_succ]; rfl
      ·rfl
      ·intro _ hSw; (try dsimp only at hSw); go_simp <;> with_reducible rfl
      (try simp only [Act.put, List.setIfInBounds_toArray, List.set_cons_zero, List.set_cons_succ])
     refine Nx.stop ?_
     refine wpAnyH_ready (rs := [15]) (by kernel_rfl) (by simp) ?_
     refine AllReadyH.cons (o := ?_) ?_ (fun K hK => ?_) AllReadyH.nil
     rotate_left 1
     ·simp only [List.getElem?_toArray, List.getElem?_cons_zero, List.getElem?_cons_succ]; rfl
     clear hHeld
     go_simp
     (go_at_call 43; refine (HBK.out _ HU1.out.drew).mono ?_; rintro e w5 ⟨rfl, hu5⟩; obtain ⟨k1, HPO, HMA, HU5⟩ := HKQ.out _ (((Upd.refl [] w1).drew).trans hu5); clear hu5)
     try go_wp2_with fail
     refine hK.out _ _ ?_ (fun hHeld => ?_)
     ·first | exact k0 | exact k1 | exact k2
     clear hK K
     (try simp only [Act.put, List.setIfInBounds_toArray, List.set_cons_zero, List.set_cons_succ])
     refine Nx.start [(16, []), (17, [])] ?_
     iterate 2
      refine Nx.h (oi := ?_) (v := ?_) ?_ (by kernel_rfl) (fun _ _ _ h => h) ?_ ?_ hHeld ?_
      rotate_left 2
      ·simp only [List.getElem?_toArray, List.getElem?_cons_zero, List.getElem?_cons_succ]; rfl
      ·rfl
      ·intro _ hSw; (try dsimp only at hSw); go_simp <;> with_reducible rfl
      (try simp only [Act.put, List.setIfInBounds_toArray, List.set_cons_zero, List.set_cons_succ])
     refine Nx.stop ?_
     refine wpAnyH_ready (rs := [18]) (by kernel_rfl) (by simp) ?_
     refine AllReadyH.cons (o := ?_) ?_ (fun K hK => ?_) AllReadyH.nil
     rotate_left 1
     ·simp only [List.getElem?_toArray, List.getElem?_cons_zero, List.getElem?_cons_succ]; rfl
     clear hHeld
     go_simp
     (go_at_call 32; refine (HBU.out _ HMA.out).mono ?_; rintro e w6 ⟨rfl, HMB, hu6, hm6⟩; obtain ⟨k2, HPB⟩ := HKB.out _ _ k1 HPO hu6 hm6 (HFQ.out _ HU5.out); have HU6 := Lib.hid hu6; clear hu6 hm6)
     try go_wp2_with fail
     refine hK.out _ _ ?_ (fun hHeld => ?_)
     ·first | exact k0 | exact k1 | exact k2
     clear hK K
     (try simp only [Act.put, List.setIfInBounds_toArray, List.set_cons_zero, List.set_cons_succ])
     refine Nx.start [(19, []), (20, [])] ?_
     iterate 2
      refine Nx.h (oi := ?_) (v := ?_) ?_ (by kernel_rfl) (fun _ _ _ h => h) ?_ ?_ hHeld ?_
      rotate_left 2
      ·simp only [List.getElem?_toArray, List.getElem?_cons_zero, List.getElem?_cons_succ]; rfl
      ·rfl
      ·intro _ hSw; (try dsimp only at hSw); go_simp <;> with_reducible rfl
      (try simp only [Act.put, List.setIfInBounds_toArray, List.set_cons_zero, List.set_cons_succ])
     refine Nx.stop ?_
     refine wpAnyH_done (by kernel_rfl) ?_ _
     refine NoPanic.normal ?_
     go_wp2_with fail
     refine bodyPost_ret (results_none rfl _ _ _) rfl ?_
     have h6 := HMB.out
     rw [List.append_assoc, List.append_assoc, ← news_app HU5.out.size HU6.out.size] at h6
     exact ⟨rfl, ⟨_, h6⟩, HPB.out.2.2.2.2.2⟩

    | succ k =>
     rw [if_neg (fun h => by cases h.2), if_pos hbk]
     rw [if_neg (by decide)]
     have HBU : Hid (∀ W, MAt B W (U ++ news w W) (R ++ news w W) mb ib p S X → Calls Tryd.prog 32 #[.pointer (some ⟨mb, 0, none⟩)] W fun e W' => e = .returned (.bool true) ∧ Hid (MAt B W' (U ++ news w W ++ news W W') (R ++ news w W ++ news W W') mb ib p { S with fuel := k } X) ∧ Upd [mb] W W' ∧ W'.cell? ⟨mb, 2, none⟩ = some (.slice (some ⟨mbb, mo, none⟩) p.ms.length mc)) := fun W hW => (mburn_one hW hk (by omega)).mono (fun e W' ⟨h1, h2, h3⟩ => ⟨h1, h2, h3, by rw [cell_of h2.box, mccells, HMV.out]; rfl⟩)
     clear hk
     go_enter Tryd.func31, Tryd.ntmps31
     go_upto_region 1 with fail
     generalize w.alloc (.cells #[.int .i64 22, .int .i64 xa, .int .i64 xb, .int .i64 xn] 29) = w1 at *
     have x0 : w1.cell? ⟨w.heap.size, 0, none⟩ = some (.int .i64 22) := by rw [cell_of hA]; rfl
     have k0 := (HKQ.out w1 (Upd.refl [] w1)).1
     go_upto_region 5 with fail
     refine wp_region_noPanic ?_
     refine wp_region_held_drew (S := fun w' => w'.cell? ⟨mb, 2, none⟩ = some (.slice (some ⟨mbb, mo, none⟩) p.ms.length mc) ∧ w'.cell? ⟨fb, below.length * 4, none⟩ = some (.int .i64 f.m) ∧ w'.cell? ⟨fb, below.length * 4 + 1, none⟩ = some (.int .i64 f.pc) ∧ w'.cell? ⟨mbb, mo + f.m * 4, none⟩ = some (.string me.params) ∧ w'.cell? ⟨mbb, mo + f.m * 4 + 1, none⟩ = some (.string me.locals) ∧ w'.cell? ⟨mbb, mo + f.m * 4 + 2, none⟩ = some (.string me.ret) ∧ w'.cell? ⟨mbb, mo + f.m * 4 + 3, none⟩ = some (.slice ka me.code.length kc)) (by kernel_rfl) ?_ (fun hHeld => ?_)
     ·first | exact k0 | exact k1 | exact k2
     refine Nx.start [(0, []), (1, []), (2, []), (3, []), (4, []), (5, []), (6, []), (7, []), (8, []), (9, []), (10, []), (11, []), (12, []), (13, []), (14, [])] ?_
     iterate 15
      refine Nx.h (oi := ?_) (v := ?_) ?_ (by kernel_rfl) (fun _ _ _ h => h) ?_ ?_ hHeld ?_
      rotate_left 2
      ·simp only [List.getElem?_toArray, List.getElem?_cons_zero, List.getElem?_cons_succ]; rfl
      ·rfl
      ·intro _ hSw; (try dsimp only at hSw); go_simp <;> with_reducible rfl
      (try simp only [Act.put, List.setIfInBounds_toArray, List.set_cons_zero, List.set_cons_succ])
     refine Nx.stop ?_
     refine wpAnyH_ready (rs := [15]) (by kernel_rfl) (by simp) ?_
     refine AllReadyH.cons (o := ?_) ?_ (fun K hK => ?_) AllReadyH.nil
     rotate_left 1
     ·simp only [List.getElem?_toArray, List.getElem?_cons_zero, List.getElem?_cons_succ]; rfl
     clear hHeld
     go_simp
     (go_at_call 43; refine (HBK.out _ HU1.out.drew).mono ?_; rintro e w5 ⟨rfl, hu5⟩; obtain ⟨k1, HPO, HMA, HU5⟩ := HKQ.out _ (((Upd.refl [] w1).drew).trans hu5); clear hu5)
     try go_wp2_with fail
     refine hK.out _ _ ?_ (fun hHeld => ?_)
     ·first | exact k0 | exact k1 | exact k2
     clear hK K
     (try simp only [Act.put, List.setIfInBounds_toArray, List.set_cons_zero, List.set_cons_succ])
     refine Nx.start [(16, []), (17, [])] ?_
     iterate 2
      refine Nx.h (oi := ?_) (v := ?_) ?_ (by kernel_rfl) (fun _ _ _ h => h) ?_ ?_ hHeld ?_
      rotate_left 2
      ·simp only [List.getElem?_toArray, List.getElem?_cons_zero, List.getElem?_cons_succ]; rfl
      ·rfl
      ·intro _ hSw; (try dsimp only at hSw); go_simp <;> with_reducible rfl
      (try simp only [Act.put, List.setIfInBounds_toArray, List.set_cons_zero, List.set_cons_succ])
     refine Nx.stop ?_
     refine wpAnyH_ready (rs := [18]) (by kernel_rfl) (by simp) ?_
     refine AllReadyH.cons (o := ?_) ?_ (fun K hK => ?_) AllReadyH.nil
     rotate_left 1
     ·simp only [List.getElem?_toArray, List.getElem?_cons_zero, List.getElem?_cons_succ]; rfl
     clear hHeld
     go_simp
     (go_at_call 32; refine (HBU.out _ HMA.out).mono ?_; rintro e w6 ⟨rfl, HMB, hu6, hm6⟩; obtain ⟨k2, HPB⟩ := HKB.out _ _ k1 HPO hu6 hm6 (HFQ.out _ HU5.out); have HU6 := Lib.hid hu6; clear hu6 hm6)
     try go_wp2_with fail
     refine hK.out _ _ ?_ (fun hHeld => ?_)
     ·first | exact k0 | exact k1 | exact k2
     clear hK K
     (try simp only [Act.put, List.setIfInBounds_toArray, List.set_cons_zero, List.set_cons_succ])
     refine Nx.start [(19, []), (20, [])] ?_
     iterate 2
      refine Nx.h (oi := ?_) (v := ?_) ?_ (by kernel_rfl) (fun _ _ _ h => h) ?_ ?_ hHeld ?_
      rotate_left 2
      ·simp only [List.getElem?_toArray, List.getElem?_cons_zero, List.getElem?_cons_succ]; rfl
      ·rfl
      ·intro _ hSw; (try dsimp only at hSw); go_simp <;> with_reducible rfl
      (try simp only [Act.put, List.setIfInBounds_toArray, List.set_cons_zero, List.set_cons_succ])
     refine Nx.stop ?_
     refine wpAnyH_done (by kernel_rfl) ?_ _
     refine NoPanic.normal ?_
     have hma := HMB.out
     rw [List.append_assoc, List.append_assoc, ← news_app HU5.out.size HU6.out.size] at hma
     have HMA := Lib.hid hma
     have HPO := HPB
     clear hma HMB HPB
     obtain ⟨t0, t1, t3, tz3, tz1, hPU⟩ := HPO.out
     have tc1 := k2.2.2.1
     have HPU := Lib.hid hPU
     clear hPU
     go_wp2_with fail
     go_end0
     have hxa : ((xa.toNat : Nat) : Int) = xa := by have := HJA.out; omega
     have hT2 := HMA.out.setPc HF.out HG.out HFV.out xa.toNat
     rw [hxa] at hT2
     exact ⟨rfl, MAt.fin HPU.out hT2.1 hT2.2 (by rw [size_set]) (fun b hb => by rw [List.mem_singleton] at hb; rw [hb]; exact HRF.out)⟩
   ·have hd : decide (xa ≤ (f.pc : Int)) = false := decide_eq_false hbk
    rw [hd] at HBK
    rw [if_neg (fun h => hbk h.1), if_neg hbk]
    rw [if_neg (by decide)]
    go_enter Tryd.func31, Tryd.ntmps31
    go_upto_region 1 with fail
    generalize w.alloc (.cells #[.int .i64 22, .int .i64 xa, .int .i64 xb, .int .i64 xn] 29) = w1 at *
    have x0 : w1.cell? ⟨w.heap.size, 0, none⟩ = some (.int .i64 22) := by rw [cell_of hA]; rfl
    have k0 := (HKQ.out w1 (Upd.refl [] w1)).1
    go_upto_region 5 with fail
    refine wp_region_noPanic ?_
    refine wp_region_held_drew (S := fun w' => w'.cell? ⟨mb, 2, none⟩ = some (.slice (some ⟨mbb, mo, none⟩) p.ms.length mc) ∧ w'.cell? ⟨fb, below.length * 4, none⟩ = some (.int .i64 f.m) ∧ w'.cell? ⟨fb, below.length * 4 + 1, none⟩ = some (.int .i64 f.pc) ∧ w'.cell? ⟨mbb, mo + f.m * 4, none⟩ = some (.string me.params) ∧ w'.cell? ⟨mbb, mo + f.m * 4 + 1, none⟩ = some (.string me.locals) ∧ w'.cell? ⟨mbb, mo + f.m * 4 + 2, none⟩ = some (.string me.ret) ∧ w'.cell? ⟨mbb, mo + f.m * 4 + 3, none⟩ = some (.slice ka me.code.length kc)) (by kernel_rfl) ?_ (fun hHeld => ?_)
    ·first | exact k0 | exact k1 | exact k2
    refine Nx.start [(0, []), (1, []), (2, []), (3, []), (4, []), (5, []), (6, []), (7, []), (8, []), (9, []), (10, []), (11, []), (12, []), (13, []), (14, [])] ?_
    iterate 15
     refine Nx.h (oi := ?_) (v := ?_) ?_ (by kernel_rfl) (fun _ _ _ h => h) ?_ ?_ hHeld ?_
     rotate_left 2
     ·simp only [List.getElem?_toArray, List.getElem?_cons_zero, List.getElem?_cons_succ]; rfl
     ·rfl
     ·intro _ hSw; (try dsimp only at hSw); go_simp <;> with_reducible rfl
     (try simp only [Act.put, List.setIfInBounds_toArray, List.set_cons_zero, List.set_cons_succ])
    refine Nx.stop ?_
    refine wpAnyH_ready (rs := [15]) (by kernel_rfl) (by simp) ?_
    refine AllReadyH.cons (o := ?_) ?_ (fun K hK => ?_) AllReadyH.nil
    rotate_left 1
    ·simp only [List.getElem?_toArray, List.getElem?_cons_zero, List.getElem?_cons_succ]; rfl
    clear hHeld
    go_simp
    (go_at_call 43; refine (HBK.out _ HU1.out.drew).mono ?_; rintro e w5 ⟨rfl, hu5⟩; obtain ⟨k1, HPO, HMA, HU5⟩ := HKQ.out _ (((Upd.refl [] w1).drew).trans hu5); clear hu5)
    try go_wp2_with fail
    refine hK.out _ _ ?_ (fun hHeld => ?_)
    ·first | exact k0 | exact k1 | exact k2
    clear hK K
    (try simp only [Act.put, List.setIfInBounds_toArray, List.set_cons_zero, List.set_cons_succ])
    refine wpAnyH_take (i := 16) (oi := ?_) (v := ?_) ?_ (by kernel_rfl) (by kernel_rfl) (by kernel_rfl) (fun _ _ _ h => h) (Or.inl ⟨?_, ?_⟩) hHeld ?_
    rotate_left 2
    ·simp only [List.getElem?_toArray, List.getElem?_cons_zero, List.getElem?_cons_succ]; rfl
    ·rfl
    ·intro _ hSw; (try dsimp only at hSw); go_simp <;> with_reducible rfl
    (try simp only [Act.put, List.setIfInBounds_toArray, List.set_cons_zero, List.set_cons_succ])
    refine wpAnyH_take (i := 17) (oi := ?_) (v := undef) ?_ (by kernel_rfl) (by kernel_rfl) (by kernel_rfl) (fun _ _ _ h => h) (Or.inr ⟨?_, rfl⟩) hHeld ?_
    rotate_left 1
    ·simp only [List.getElem?_toArray, List.getElem?_cons_zero, List.getElem?_cons_succ]; rfl
    ·rfl
    (try simp only [Act.put, List.setIfInBounds_toArray, List.set_cons_zero, List.set_cons_succ])
    refine wpAnyH_take (i := 18) (oi := ?_) (v := undef) ?_ (by kernel_rfl) (by kernel_rfl) (by kernel_rfl) (fun _ _ _ h => h) (Or.inr ⟨?_, rfl⟩) hHeld ?_
    rotate_left 1
    ·simp only [List.getElem?_toArray, List.getElem?_cons_zero, List.getElem?_cons_succ]; rfl
    ·rfl
    (try simp only [Act.put, List.setIfInBounds_toArray, List.set_cons_zero, List.set_cons_succ])
    refine wpAnyH_take (i := 19) (oi := ?_) (v := undef) ?_ (by kernel_rfl) (by kernel_rfl) (by kernel_rfl) (fun _ _ _ h => h) (Or.inr ⟨?_, rfl⟩) hHeld ?_
    rotate_left 1
    ·simp only [List.getElem?_toArray, List.getElem?_cons_zero, List.getElem?_cons_succ]; rfl
    ·rfl
    (try simp only [Act.put, List.setIfInBounds_toArray, List.set_cons_zero, List.set_cons_succ])
    refine wpAnyH_take (i := 20) (oi := ?_) (v := ?_) ?_ (by kernel_rfl) (by kernel_rfl) (by kernel_rfl) (fun _ _ _ h => h) (Or.inl ⟨?_, ?_⟩) hHeld ?_
    rotate_left 2
    ·simp only [List.getElem?_toArray, List.getElem?_cons_zero, List.getElem?_cons_succ]; rfl
    ·rfl
    ·intro _ hSw; (try dsimp only at hSw); go_simp <;> with_reducible rfl
    (try simp only [Act.put, List.setIfInBounds_toArray, List.set_cons_zero, List.set_cons_succ])
    refine wpAnyH_done (by kernel_rfl) ?_ _
    refine NoPanic.normal ?_
    obtain ⟨t0, t1, t3, tz3, tz1, hPU⟩ := HPO.out
    have tc1 := k1.2.2.1
    have HPU := Lib.hid hPU
    clear hPU
    go_wp2_with fail
    go_end0
    have hxa : ((xa.toNat : Nat) : Int) = xa := by have := HJA.out; omega
    have hT2 := HMA.out.setPc HF.out HG.out HFV.out xa.toNat
    rw [hxa] at hT2
    exact ⟨rfl, MAt.fin HPU.out hT2.1 hT2.2 (by rw [size_set]) (fun b hb => by rw [List.mem_singleton] at hb; rw [hb]; exact HRF.out)⟩

  ·obtain ⟨b, rfl, xv⟩ := HTV.out rfl
   have hl1 := hlen rfl
   have hnz2 : ((tp f.stk 0).n != 0) = false := by
    cases hq : ((tp f.stk 0).n != 0)
    ·rfl
    ·exact absurd ⟨rfl, by rwa [bne_iff_ne] at hq⟩ hA1
   clear HTV hlen hA1
   have v3 := hu1.cell c3 (by simp)
   have vq := hu1.heap hfq (by simp)
   have vx := hu1.cell xv (by simp)
   have s1 : IntKind.i64.wrap ((f.stk.length : Int) - 1) = ((f.stk.length - 1 : Nat) : Int) := by rw [IntWalk.i64_in _ (by omega)]; omega
   have hl2 : f.stk.length - 1 < f.stk.length := by omega
   have hl3 : f.stk.length - 1 ≤ sc := by omega
   have HKQ : Hid (∀ W, Upd [] (w.alloc (.cells #[.int .i64 23, .int .i64 xa, .int .i64 xb, .int .i64 xn] 29)) W → (W.cell? ⟨mb, 2, none⟩ = some (.slice (some ⟨mbb, mo, none⟩) p.ms.length mc) ∧ W.cell? ⟨fb, below.length * 4, none⟩ = some (.int .i64 f.m) ∧ W.cell? ⟨fb, below.length * 4 + 1, none⟩ = some (.int .i64 f.pc) ∧ W.cell? ⟨mbb, mo + f.m * 4, none⟩ = some (.string me.params) ∧ W.cell? ⟨mbb, mo + f.m * 4 + 1, none⟩ = some (.string me.locals) ∧ W.cell? ⟨mbb, mo + f.m * 4 + 2, none⟩ = some (.string me.ret) ∧ W.cell? ⟨mbb, mo + f.m * 4 + 3, none⟩ = some (.slice ka me.code.length kc)) ∧ Hid (W.cell? ⟨w.heap.size, 0, none⟩ = some (.int .i64 23) ∧ W.cell? ⟨w.heap.size, 1, none⟩ = some (.int .i64 xa) ∧ W.cell? ⟨fb, below.length * 4 + 3, none⟩ = some (.slice (some ⟨b, 0, none⟩) f.stk.length sc) ∧ W.frozen? ⟨fb, below.length * 4 + 3, none⟩ = false ∧ W.frozen? ⟨fb, below.length * 4 + 1, none⟩ = false ∧ Upd R w W) ∧ Hid (MAt B W (U ++ news w W) (R ++ news w W) mb ib p S X) ∧ Hid (Upd [] w W)) := fun W hW1 => by
    have hW := hu1.trans hW1
    have hq := hW.heap hfq (by simp)
    have hx := hW1.heap hA (by simp)
    exact ⟨⟨hW.cell n2 (by simp), hW.cell c0 (by simp), hW.cell c1 (by simp), hW.cell d0 (by simp), hW.cell d1 (by simp), hW.cell d2 (by simp), hW.cell d3 (by simp)⟩, ⟨by rw [cell_of hx]; rfl, by rw [cell_of hx]; rfl, hW.cell c3 (by simp), froz_of hq _, froz_of hq _, hW.mono (by simp)⟩, HH.out.new hW, hW⟩
   have HKB : Hid (∀ W W', (W.cell? ⟨mb, 2, none⟩ = some (.slice (some ⟨mbb, mo, none⟩) p.ms.length mc) ∧ W.cell? ⟨fb, below.length * 4, none⟩ = some (.int .i64 f.m) ∧ W.cell? ⟨fb, below.length * 4 + 1, none⟩ = some (.int .i64 f.pc) ∧ W.cell? ⟨mbb, mo + f.m * 4, none⟩ = some (.string me.params) ∧ W.cell? ⟨mbb, mo + f.m * 4 + 1, none⟩ = some (.string me.locals) ∧ W.cell? ⟨mbb, mo + f.m * 4 + 2, none⟩ = some (.string me.ret) ∧ W.cell? ⟨mbb, mo + f.m * 4 + 3, none⟩ = some (.slice ka me.code.length kc)) → Hid (W.cell? ⟨w.heap.size, 0, none⟩ = some (.int .i64 23) ∧ W.cell? ⟨w.heap.size, 1, none⟩ = some (.int .i64 xa) ∧ W.cell? ⟨fb, below.length * 4 + 3, none⟩ = some (.slice (some ⟨b, 0, none⟩) f.stk.length sc) ∧ W.frozen? ⟨fb, below.length * 4 + 3, none⟩ = false ∧ W.frozen? ⟨fb, below.length * 4 + 1, none⟩ = false ∧ Upd R w W) → Upd [mb] W W' → W'.cell? ⟨mb, 2, none⟩ = some (.slice (some ⟨mbb, mo, none⟩) p.ms.length mc) → Hid (∃ q, W.heap[fb]? = some (.cells q 82)) → (W'.cell? ⟨mb, 2, none⟩ = some (.slice (some ⟨mbb, mo, none⟩) p.ms.length mc) ∧ W'.cell? ⟨fb, below.length * 4, none⟩ = some (.int .i64 f.m) ∧ W'.cell? ⟨fb, below.length * 4 + 1, none⟩ = some (.int .i64 f.pc) ∧ W'.cell? ⟨mbb, mo + f.m * 4, none⟩ = some (.string me.params) ∧ W'.cell? ⟨mbb, mo + f.m * 4 + 1, none⟩ = some (.string me.locals) ∧ W'.cell? ⟨mbb, mo + f.m * 4 + 2, none⟩ = some (.string me.ret) ∧ W'.cell? ⟨mbb, mo + f.m * 4 + 3, none⟩ = some (.slice ka me.code.length kc)) ∧ Hid (W'.cell? ⟨w.heap.size, 0, none⟩ = some (.int .i64 23) ∧ W'.cell? ⟨w.heap.size, 1, none⟩ = some (.int .i64 xa) ∧ W'.cell? ⟨fb, below.length * 4 + 3, none⟩ = some (.slice (some ⟨b, 0, none⟩) f.stk.length sc) ∧ W'.frozen? ⟨fb, below.length * 4 + 3, none⟩ = false ∧ W'.frozen? ⟨fb, below.length * 4 + 1, none⟩ = false ∧ Upd R w W')) := fun W W' hs hp hu hm hq => by
    obtain ⟨hn1, hn2, hn3⟩ := HNE.out
    obtain ⟨q, hq⟩ := hq.out
    have m1 : fb ∉ [mb] := by simp [hn1]
    have m2 : mbb ∉ [mb] := by simp [hn2]
    have m3 : w.heap.size ∉ [mb] := by simp; omega
    obtain ⟨_, r1, r2, r3, r4, r5, r6⟩ := hs
    obtain ⟨p0, p1, p2, p3, p4, p5⟩ := hp.out
    have hq' := hu.heap hq m1
    exact ⟨⟨hm, hu.cell r1 m1, hu.cell r2 m1, hu.cell r3 m2, hu.cell r4 m2, hu.cell r5 m2, hu.cell r6 m2⟩, ⟨hu.cell p0 m3, hu.cell p1 m3, hu.cell p2 m1, froz_of hq' _, froz_of hq' _, p5.trans' hu (fun b hb _ => by rw [List.mem_singleton] at hb; rw [hb]; exact HH.out.mine)⟩⟩
   have HFQ : Hid (∀ W, Upd [] w W → Hid (∃ q, W.heap[fb]? = some (.cells q 82))) := fun W hW => ⟨_, hW.heap hfq (by simp)⟩
   clear c0 c1 c3 n2 d0 d1 d2 d3 hu1 hsv xv
   generalize (tp f.stk 0).n = tn at *
   have hfm2 := HML.out
   by_cases hbk : xa ≤ f.pc
   ·have hd : decide (xa ≤ (f.pc : Int)) = true := decide_eq_true hbk
    rw [hd] at HBK
    cases hk : S.fuel with
    | zero =>
     rw [if_pos ⟨hbk, rfl⟩]
     have HBU : Hid (∀ W, MAt B W (U ++ news w W) (R ++ news w W) mb ib p S X → Calls Tryd.prog 32 #[.pointer (some ⟨mb, 0, none⟩)] W fun e W' => e = .returned (.bool false) ∧ Hid (MAt B W' (U ++ news w W ++ news W W') (R ++ news w W ++ news W W') mb ib p (S.stop 3 0 f) X) ∧ Upd [mb] W W' ∧ W'.cell? ⟨mb, 2, none⟩ = some (.slice (some ⟨mbb, mo, none⟩) p.ms.length mc)) := fun W hW => (mburn_none hW HF.out HFIN.out hk).mono (fun e W' ⟨h1, h2, h3⟩ => ⟨h1, h2, h3, by rw [cell_of h2.box, mccells, HMV.out]; rfl⟩)
     clear hk
     go_enter Tryd.func31, Tryd.ntmps31
     go_upto_region 1 with fail
     generalize w.alloc (.cells #[.int .i64 23, .int .i64 xa, .int .i64 xb, .int .i64 xn] 29) = w1 at *
     have x0 : w1.cell? ⟨w.heap.size, 0, none⟩ = some (.int .i64 23) := by rw [cell_of hA]; rfl
     have k0 := (HKQ.out w1 (Upd.refl [] w1)).1
     go_upto_region 5 with fail
     refine wp_region_noPanic ?_
     refine wp_region_held_drew (S := fun w' => w'.cell? ⟨mb, 2, none⟩ = some (.slice (some ⟨mbb, mo, none⟩) p.ms.length mc) ∧ w'.cell? ⟨fb, below.length * 4, none⟩ = some (.int .i64 f.m) ∧ w'.cell? ⟨fb, below.length * 4 + 1, none⟩ = some (.int .i64 f.pc) ∧ w'.cell? ⟨mbb, mo + f.m * 4, none⟩ = some (.string me.params) ∧ w'.cell? ⟨mbb, mo + f.m * 4 + 1, none⟩ = some (.string me.locals) ∧ w'.cell? ⟨mbb, mo + f.m * 4 + 2, none⟩ = some (.string me.ret) ∧ w'.cell? ⟨mbb, mo + f.m * 4 + 3, none⟩ = some (.slice ka me.code.length kc)) (by kernel_rfl) ?_ (fun hHeld => ?_)
     ·first | exact k0 | exact k1 | exact k2
     refine Nx.start [(0, []), (1, []), (2, []), (3, []), (4, []), (5, []), (6, []), (7, []), (8, []), (9, []), (10, []), (11, []), (12, []), (13, []), (14, [])] ?_
     iterate 15
      refine Nx.h (oi := ?_) (v := ?_) ?_ (by kernel_rfl) (fun _ _ _ h => h) ?_ ?_ hHeld ?_
      rotate_left 2
      ·simp only [List.getElem?_toArray, List.getElem?_cons_zero, List.getElem?_cons_succ]; rfl
      ·rfl
      ·intro _ hSw; (try dsimp only at hSw); go_simp <;> with_reducible rfl
      (try simp only [Act.put, List.setIfInBounds_toArray, List.set_cons_zero, List.set_cons_succ])
     refine Nx.stop ?_
     refine wpAnyH_ready (rs := [15]) (by kernel_rfl) (by simp) ?_
     refine AllReadyH.cons (o := ?_) ?_ (fun K hK => ?_) AllReadyH.nil
     rotate_left 1
     ·simp only [List.getElem?_toArray, List.getElem?_cons_zero, List.getElem?_cons_succ]; rfl
     clear hHeld
     go_simp
     (go_at_call 43; refine (HBK.out _ HU1.out.drew).mono ?_; rintro e w5 ⟨rfl, hu5⟩; obtain ⟨k1, HPO, HMA, HU5⟩ := HKQ.out _ (((Upd.refl [] w1).drew).trans hu5); clear hu5)
     try go_wp2_with fail
     refine hK.out _ _ ?_ (fun hHeld => ?_)
     ·first | exact k0 | exact k1 | exact k2
     clear hK K
     (try simp only [Act.put, List.setIfInBounds_toArray, List.set_cons_zero, List.set_cons_succ])
     refine Nx.start [(16, []), (17, [])] ?_
     iterate 2
      refine Nx.h (oi := ?_) (v := ?_) ?_ (by kernel_rfl) (fun _ _ _ h => h) ?_ ?_ hHeld ?_
      rotate_left 2
      ·simp only [List.getElem?_toArray, List.getElem?_cons_zero, List.getElem?_cons_succ]; rfl
      ·rfl
      ·intro _ hSw; (try dsimp only at hSw); go_simp <;> with_reducible rfl
      (try simp only [Act.put, List.setIfInBounds_toArray, List.set_cons_zero, List.set_cons_succ])
     refine Nx.stop ?_
     refine wpAnyH_ready (rs := [18]) (by kernel_rfl) (by simp) ?_
     refine AllReadyH.cons (o := ?_) ?_ (fun K hK => ?_) AllReadyH.nil
     rotate_left 1
     ·simp only [List.getElem?_toArray, List.getElem?_cons_zero, List.getElem?_cons_succ]; rfl
     clear hHeld
     go_simp
     (go_at_call 32; refine (HBU.out _ HMA.out).mono ?_; rintro e w6 ⟨rfl, HMB, hu6, hm6⟩; obtain ⟨k2, HPB⟩ := HKB.out _ _ k1 HPO hu6 hm6 (HFQ.out _ HU5.out); have HU6 := Lib.hid hu6; clear hu6 hm6)
     try go_wp2_with fail
     refine hK.out _ _ ?_ (fun hHeld => ?_)
     ·first | exact k0 | exact k1 | exact k2
     clear hK K
     (try simp only [Act.put, List.setIfInBounds_toArray, List.set_cons_zero, List.set_cons_succ])
     refine Nx.start [(19, []), (20, [])] ?_
     iterate 2
      refine Nx.h (oi := ?_) (v := ?_) ?_ (by kernel_rfl) (fun _ _ _ h => h) ?_ ?_ hHeld ?_
      rotate_left 2
      ·simp only [List.getElem?_toArray, List.getElem?_cons_zero, List.getElem?_cons_succ]; rfl
      ·rfl
      ·intro _ hSw; (try dsimp only at hSw); go_simp <;> with_reducible rfl
      (try simp only [Act.put, List.setIfInBounds_toArray, List.set_cons_zero, List.set_cons_succ])
     refine Nx.stop ?_
     refine wpAnyH_done (by kernel_rfl) ?_ _
     refine NoPanic.normal ?_
     go_wp2_with fail
     refine bodyPost_ret (results_none rfl _ _ _) rfl ?_
     have h6 := HMB.out
     rw [List.append_assoc, List.append_assoc, ← news_app HU5.out.size HU6.out.size] at h6
     exact ⟨rfl, ⟨_, h6⟩, HPB.out.2.2.2.2.2⟩

    | succ k =>
     rw [if_neg (fun h => by cases h.2), if_pos hbk]
     rw [if_pos rfl]
     have HBU : Hid (∀ W, MAt B W (U ++ news w W) (R ++ news w W) mb ib p S X → Calls Tryd.prog 32 #[.pointer (some ⟨mb, 0, none⟩)] W fun e W' => e = .returned (.bool true) ∧ Hid (MAt B W' (U ++ news w W ++ news W W') (R ++ news w W ++ news W W') mb ib p { S with fuel := k } X) ∧ Upd [mb] W W' ∧ W'.cell? ⟨mb, 2, none⟩ = some (.slice (some ⟨mbb, mo, none⟩) p.ms.length mc)) := fun W hW => (mburn_one hW hk (by omega)).mono (fun e W' ⟨h1, h2, h3⟩ => ⟨h1, h2, h3, by rw [cell_of h2.box, mccells, HMV.out]; rfl⟩)
     clear hk
     go_enter Tryd.func31, Tryd.ntmps31
     go_upto_region 1 with fail
     generalize w.alloc (.cells #[.int .i64 23, .int .i64 xa, .int .i64 xb, .int .i64 xn] 29) = w1 at *
     have x0 : w1.cell? ⟨w.heap.size, 0, none⟩ = some (.int .i64 23) := by rw [cell_of hA]; rfl
     have k0 := (HKQ.out w1 (Upd.refl [] w1)).1
     go_upto_region 5 with fail
     refine wp_region_noPanic ?_
     refine wp_region_held_drew (S := fun w' => w'.cell? ⟨mb, 2, none⟩ = some (.slice (some ⟨mbb, mo, none⟩) p.ms.length mc) ∧ w'.cell? ⟨fb, below.length * 4, none⟩ = some (.int .i64 f.m) ∧ w'.cell? ⟨fb, below.length * 4 + 1, none⟩ = some (.int .i64 f.pc) ∧ w'.cell? ⟨mbb, mo + f.m * 4, none⟩ = some (.string me.params) ∧ w'.cell? ⟨mbb, mo + f.m * 4 + 1, none⟩ = some (.string me.locals) ∧ w'.cell? ⟨mbb, mo + f.m * 4 + 2, none⟩ = some (.string me.ret) ∧ w'.cell? ⟨mbb, mo + f.m * 4 + 3, none⟩ = some (.slice ka me.code.length kc)) (by kernel_rfl) ?_ (fun hHeld => ?_)
     ·first | exact k0 | exact k1 | exact k2
     refine Nx.start [(0, []), (1, []), (2, []), (3, []), (4, []), (5, []), (6, []), (7, []), (8, []), (9, []), (10, []), (11, []), (12, []), (13, []), (14, [])] ?_
     iterate 15
      refine Nx.h (oi := ?_) (v := ?_) ?_ (by kernel_rfl) (fun _ _ _ h => h) ?_ ?_ hHeld ?_
      rotate_left 2
      ·simp only [List.getElem?_toArray, List.getElem?_cons_zero, List.getElem?_cons_succ]; rfl
      ·rfl
      ·intro _ hSw; (try dsimp only at hSw); go_simp <;> with_reducible rfl
      (try simp only [Act.put, List.setIfInBounds_toArray, List.set_cons_zero, List.set_cons_succ])
     refine Nx.stop ?_
     refine wpAnyH_ready (rs := [15]) (by kernel_rfl) (by simp) ?_
     refine AllReadyH.cons (o := ?_) ?_ (fun K hK => ?_) AllReadyH.nil
     rotate_left 1
     ·simp only [List.getElem?_toArray, List.getElem?_cons_zero, List.getElem?_cons_succ]; rfl
     clear hHeld
     go_simp
     (go_at_call 43; refine (HBK.out _ HU1.out.drew).mono ?_; rintro e w5 ⟨rfl, hu5⟩; obtain ⟨k1, HPO, HMA, HU5⟩ := HKQ.out _ (((Upd.refl [] w1).drew).trans hu5); clear hu5)
     try go_wp2_with fail
     refine hK.out _ _ ?_ (fun hHeld => ?_)
     ·first | exact k0 | exact k1 | exact k2
     clear hK K
     (try simp only [Act.put, List.setIfInBounds_toArray, List.set_cons_zero, List.set_cons_succ])
     refine Nx.start [(16, []), (17, [])] ?_
     iterate 2
      refine Nx.h (oi := ?_) (v := ?_) ?_ (by kernel_rfl) (fun _ _ _ h => h) ?_ ?_ hHeld ?_
      rotate_left 2
      ·simp only [List.getElem?_toArray, List.getElem?_cons_zero, List.getElem?_cons_succ]; rfl
      ·rfl
      ·intro _ hSw; (try dsimp only at hSw); go_simp <;> with_reducible rfl
      (try simp only [Act.put, List.setIfInBounds_toArray, List.set_cons_zero, List.set_cons_succ])
     refine Nx.stop ?_
     refine wpAnyH_ready (rs := [18]) (by kernel_rfl) (by simp) ?_
     refine AllReadyH.cons (o := ?_) ?_ (fun K hK => ?_) AllReadyH.nil
     rotate_left 1
     ·simp only [List.getElem?_toArray, List.getElem?_cons_zero, List.getElem?_cons_succ]; rfl
     clear hHeld
     go_simp
     (go_at_call 32; refine (HBU.out _ HMA.out).mono ?_; rintro e w6 ⟨rfl, HMB, hu6, hm6⟩; obtain ⟨k2, HPB⟩ := HKB.out _ _ k1 HPO hu6 hm6 (HFQ.out _ HU5.out); have HU6 := Lib.hid hu6; clear hu6 hm6)
     try go_wp2_with fail
     refine hK.out _ _ ?_ (fun hHeld => ?_)
     ·first | exact k0 | exact k1 | exact k2
     clear hK K
     (try simp only [Act.put, List.setIfInBounds_toArray, List.set_cons_zero, List.set_cons_succ])
     refine Nx.start [(19, []), (20, [])] ?_
     iterate 2
      refine Nx.h (oi := ?_) (v := ?_) ?_ (by kernel_rfl) (fun _ _ _ h => h) ?_ ?_ hHeld ?_
      rotate_left 2
      ·simp only [List.getElem?_toArray, List.getElem?_cons_zero, List.getElem?_cons_succ]; rfl
      ·rfl
      ·intro _ hSw; (try dsimp only at hSw); go_simp <;> with_reducible rfl
      (try simp only [Act.put, List.setIfInBounds_toArray, List.set_cons_zero, List.set_cons_succ])
     refine Nx.stop ?_
     refine wpAnyH_done (by kernel_rfl) ?_ _
     refine NoPanic.normal ?_
     have hma := HMB.out
     rw [List.append_assoc, List.append_assoc, ← news_app HU5.out.size HU6.out.size] at hma
     have HMA := Lib.hid hma
     have HPO := HPB
     clear hma HMB HPB
     obtain ⟨t0, t1, t3, tz3, tz1, hPU⟩ := HPO.out
     have tc1 := k2.2.2.1
     have HPU := Lib.hid hPU
     clear hPU
     go_wp2_with fail
     go_end0
     have hxa : ((xa.toNat : Nat) : Int) = xa := by have := HJA.out; omega
     have hst := HMA.out.stCut HF.out HG.out HSV.out 1 sc hl3 hs2 (fun e => by cases e)
     have hT2 := HMA.out.setTop2 HF.out HG.out HFV.out (.slice (some ⟨b, 0, none⟩) (f.stk.length - 1) sc) (cutV f.stk 1) xa.toNat hst
     rw [hxa] at hT2
     exact ⟨rfl, MAt.fin HPU.out hT2.1 hT2.2 (by rw [size_set, size_set]) (fun b hb => by rw [List.mem_singleton] at hb; rw [hb]; exact HRF.out)⟩
   ·have hd : decide (xa ≤ (f.pc : Int)) = false := decide_eq_false hbk
    rw [hd] at HBK
    rw [if_neg (fun h => hbk h.1), if_neg hbk]
    rw [if_pos rfl]
    go_enter Tryd.func31, Tryd.ntmps31
    go_upto_region 1 with fail
    generalize w.alloc (.cells #[.int .i64 23, .int .i64 xa, .int .i64 xb, .int .i64 xn] 29) = w1 at *
    have x0 : w1.cell? ⟨w.heap.size, 0, none⟩ = some (.int .i64 23) := by rw [cell_of hA]; rfl
    have k0 := (HKQ.out w1 (Upd.refl [] w1)).1
    go_upto_region 5 with fail
    refine wp_region_noPanic ?_
    refine wp_region_held_drew (S := fun w' => w'.cell? ⟨mb, 2, none⟩ = some (.slice (some ⟨mbb, mo, none⟩) p.ms.length mc) ∧ w'.cell? ⟨fb, below.length * 4, none⟩ = some (.int .i64 f.m) ∧ w'.cell? ⟨fb, below.length * 4 + 1, none⟩ = some (.int .i64 f.pc) ∧ w'.cell? ⟨mbb, mo + f.m * 4, none⟩ = some (.string me.params) ∧ w'.cell? ⟨mbb, mo + f.m * 4 + 1, none⟩ = some (.string me.locals) ∧ w'.cell? ⟨mbb, mo + f.m * 4 + 2, none⟩ = some (.string me.ret) ∧ w'.cell? ⟨mbb, mo + f.m * 4 + 3, none⟩ = some (.slice ka me.code.length kc)) (by kernel_rfl) ?_ (fun hHeld => ?_)
    ·first | exact k0 | exact k1 | exact k2
    refine Nx.start [(0, []), (1, []), (2, []), (3, []), (4, []), (5, []), (6, []), (7, []), (8, []), (9, []), (10, []), (11, []), (12, []), (13, []), (14, [])] ?_
    iterate 15
     refine Nx.h (oi := ?_) (v := ?_) ?_ (by kernel_rfl) (fun _ _ _ h => h) ?_ ?_ hHeld ?_
     rotate_left 2
     ·simp only [List.getElem?_toArray, List.getElem?_cons_zero, List.getElem?_cons_succ]; rfl
     ·rfl
     ·intro _ hSw; (try dsimp only at hSw); go_simp <;> with_reducible rfl
     (try simp only [Act.put, List.setIfInBounds_toArray, List.set_cons_zero, List.set_cons_succ])
    refine Nx.stop ?_
    refine wpAnyH_ready (rs := [15]) (by kernel_rfl) (by simp) ?_
    refine AllReadyH.cons (o := ?_) ?_ (fun K hK => ?_) AllReadyH.nil
    rotate_left 1
    ·simp only [List.getElem?_toArray, List.getElem?_cons_zero, List.getElem?_cons_succ]; rfl
    clear hHeld
    go_simp
    (go_at_call 43; refine (HBK.out _ HU1.out.drew).mono ?_; rintro e w5 ⟨rfl, hu5⟩; obtain ⟨k1, HPO, HMA, HU5⟩ := HKQ.out _ (((Upd.refl [] w1).drew).trans hu5); clear hu5)
    try go_wp2_with fail
    refine hK.out _ _ ?_ (fun hHeld => ?_)
    ·first | exact k0 | exact k1 | exact k2
    clear hK K
    (try simp only [Act.put, List.setIfInBounds_toArray, List.set_cons_zero, List.set_cons_succ])
    refine wpAnyH_take (i := 16) (oi := ?_) (v := ?_) ?_ (by kernel_rfl) (by kernel_rfl) (by kernel_rfl) (fun _ _ _ h => h) (Or.inl ⟨?_, ?_⟩) hHeld ?_
    rotate_left 2
    ·simp only [List.getElem?_toArray, List.getElem?_cons_zero, List.getElem?_cons_succ]; rfl
    ·rfl
    ·intro _ hSw; (try dsimp only at hSw); go_simp <;> with_reducible rfl
    (try simp only [Act.put, List.setIfInBounds_toArray, List.set_cons_zero, List.set_cons_succ])
    refine wpAnyH_take (i := 17) (oi := ?_) (v := undef) ?_ (by kernel_rfl) (by kernel_rfl) (by kernel_rfl) (fun _ _ _ h => h) (Or.inr ⟨?_, rfl⟩) hHeld ?_
    rotate_left 1
    ·simp only [List.getElem?_toArray, List.getElem?_cons_zero, List.getElem?_cons_succ]; rfl
    ·rfl
    (try simp only [Act.put, List.setIfInBounds_toArray, List.set_cons_zero, List.set_cons_succ])
    refine wpAnyH_take (i := 18) (oi := ?_) (v := undef) ?_ (by kernel_rfl) (by kernel_rfl) (by kernel_rfl) (fun _ _ _ h => h) (Or.inr ⟨?_, rfl⟩) hHeld ?_
    rotate_left 1
    ·simp only [List.getElem?_toArray, List.getElem?_cons_zero, List.getElem?_cons_succ]; rfl
    ·rfl
    (try simp only [Act.put, List.setIfInBounds_toArray, List.set_cons_zero, List.set_cons_succ])
    refine wpAnyH_take (i := 19) (oi := ?_) (v := undef) ?_ (by kernel_rfl) (by kernel_rfl) (by kernel_rfl) (fun _ _ _ h => h) (Or.inr ⟨?_, rfl⟩) hHeld ?_
    rotate_left 1
    ·simp only [List.getElem?_toArray, List.getElem?_cons_zero, List.getElem?_cons_succ]; rfl
    ·rfl
    (try simp only [Act.put, List.setIfInBounds_toArray, List.set_cons_zero, List.set_cons_succ])
    refine wpAnyH_take (i := 20) (oi := ?_) (v := ?_) ?_ (by kernel_rfl) (by kernel_rfl) (by kernel_rfl) (fun _ _ _ h => h) (Or.inl ⟨?_, ?_⟩) hHeld ?_
    rotate_left 2
    ·simp only [List.getElem?_toArray, List.getElem?_cons_zero, List.getElem?_cons_succ]; rfl
    ·rfl
    ·intro _ hSw; (try dsimp only at hSw); go_simp <;> with_reducible rfl
    (try simp only [Act.put, List.setIfInBounds_toArray, List.set_cons_zero, List.set_cons_succ])
    refine wpAnyH_done (by kernel_rfl) ?_ _
    refine NoPanic.normal ?_
    obtain ⟨t0, t1, t3, tz3, tz1, hPU⟩ := HPO.out
    have tc1 := k1.2.2.1
    have HPU := Lib.hid hPU
    clear hPU
    go_wp2_with fail
    go_end0
    have hxa : ((xa.toNat : Nat) : Int) = xa := by have := HJA.out; omega
    have hst := HMA.out.stCut HF.out HG.out HSV.out 1 sc hl3 hs2 (fun e => by cases e)
    have hT2 := HMA.out.setTop2 HF.out HG.out HFV.out (.slice (some ⟨b, 0, none⟩) (f.stk.length - 1) sc) (cutV f.stk 1) xa.toNat hst
    rw [hxa] at hT2
    exact ⟨rfl, MAt.fin HPU.out hT2.1 hT2.2 (by rw [size_set, size_set]) (fun b hb => by rw [List.mem_singleton] at hb; rw [hb]; exact HRF.out)⟩

end
end Go.Proofs.YtojobkhidlfeoaaDoor

/-! model: Machine.ret. -/
namespace Go.Proofs.YtojobkhidlfeoaaDoor
open Go.RowKit

/-- A frame has ended. -/
def Mc.retF (S : Mc) (f : Fm) : List Fm → Mc
 | [] => { S with frs := [], fin := some ⟨1, 0, 0, 0, (f.stk.headD ⟨false, 0⟩).n⟩ }
 | g :: under => S.put under { g with stk := g.stk ++ f.stk }
section
variable {B : Nat} {w : World} {U R : List Nat} {mb ib : Nat} {p : Prg} {S : Mc} {X : MX} {f : Fm} {below : List Fm}
set_option maxRecDepth 100000 in
set_option maxHeartbeats 4000000 in
theorem mret_any {x : Ins} {t : List UInt8} {ss : List Lk} (h : MAt B w U R mb ib p S X) (a : At p ss S f x t) (hf : S.frs = f :: below) (hfin : S.fin = none) {fb c : Nat} (hfv : X.fv = .slice (some ⟨fb, 0, none⟩) (below.length + 1) c) (hop : x.op = 33) (hn : ∀ g ∈ S.frs, g.stk.length ≤ 1000) :
  Calls Tryd.prog 33 #[.pointer (some ⟨mb, 0, none⟩), .pointer (some ⟨fb, below.length * 4, none⟩)] w fun e w' => e = .returned (.tuple #[]) ∧ (∃ X', MAt B w' (U ++ news w w') (R ++ news w w') mb ib p (S.stepF p below f) X') ∧ Upd R w w' := by
 obtain ⟨i0, hi, hz0, hz1, hz2⟩ := info_parts Tryd.infoMValue
 have HI := Lib.hid hi
 have HZ0 := Lib.hid hz0
 have HZ1 := Lib.hid hz1
 have HZ2 := Lib.hid hz2
 clear hi hz0 hz1 hz2
 have hstep : S.stepF p below f = S.retF f below := by
  unfold Mc.stepF
  simp only
  rw [← a.xe, if_neg (by omega), if_neg (by omega), if_pos hop]
  cases below <;> rfl
 clear a
 rw [hstep]
 clear hstep
 obtain ⟨g, gb, fb2, c2, hg, hgl, hfv2, hc1, hc2, hR, ⟨fq, hfq⟩, _, _, _, c3⟩ := h.top hf
 rw [hfv] at hfv2
 injection hfv2 with e1 _ e3
 injection e1 with e1
 injection e1 with e1
 subst e1 e3
 obtain ⟨_, sp, sc, hsv, hs1, hs2, hs3⟩ := h.topV hf hg
 rw [hsv] at c3
 have hfn : f.stk.length ≤ 1000 := hn f (by rw [hf]; simp)
 have hb := h.box
 rw [mccells, hfv] at hb
 have m5 : w.cell? ⟨mb, 5, none⟩ = some (.slice (some ⟨fb, 0, none⟩) (below.length + 1) c) := by rw [cell_of hb]; rfl
 have z5 := froz_of hb 5
 have hm : below.length + 1 ≤ 9223372036854775807 := by unfold maxLen at hc2; omega
 have s1 : IntKind.i64.wrap (((below.length + 1 : Nat) : Int) - 1) = (below.length : Int) := by rw [IntWalk.i64_in _ (by omega)]; omega
 have s0 : IntKind.i64.wrap (below.length : Int) = (below.length : Int) := IntWalk.i64_in _ (by omega)
 have hl1 : below.length ≤ below.length + 1 := by omega
 have hl2 : below.length ≤ c := by omega
 -- behind the first store
 have hu1 : Upd [mb] w (w.setCell ⟨mb, 5, none⟩ (.slice (some ⟨fb, 0, none⟩) below.length c)) := (Upd.refl [mb] w).setCell (.inl (by simp)) _
 have hz1 : (w.setCell ⟨mb, 5, none⟩ (.slice (some ⟨fb, 0, none⟩) below.length c)).heap.size = w.heap.size := size_set _ _ _
 have h1 := h.popFrm (S' := { S with frs := below }) hf hg hfv hu1 rfl (heap_setCell h.box 5 _)
 obtain ⟨bq, hread, hrb⟩ := (h.stk 0 (by rw [hf]; simp)).read
 rw [hf, hg] at hread hrb
 have hread2 : VlV w g.sv bq 0 f.stk := hread
 have hbm : f.stk = [] ∨ bq ∉ [mb] := by
  by_cases e : f.stk = []
  ·exact .inl e
  ·obtain ⟨_, _, _, q, hq⟩ := hrb e
   exact .inr fun hm => by
    rw [List.mem_singleton] at hm
    subst hm
    exact absurd (typ_ne hq h.box) (by decide)
 have hread3 := hread2.upd hu1 hbm
 rw [hsv] at hread3
 have HRD := Lib.hid hread3
 have HBM : Hid (f.stk ≠ [] → bq ≠ mb) := fun hne e => hbm.elim hne (fun h => h (by simp [e]))
 have H1 := Lib.hid h1
 have HU1 := Lib.hid hu1
 have HZW := Lib.hid hz1
 have HH := Lib.hid h
 have HHN : Hid (∀ g ∈ below, g.stk.length ≤ 1000) := fun g hg => hn g (by rw [hf]; simp [hg])
 have HFIN := Lib.hid hfin
 have HCT : Hid (∀ g2 under, below = g2 :: under → ∃ p, (gb.getD 0 default).sv = .slice p g2.stk.length g2.stk.length) := fun g2 under e => by
  subst e
  have h1 := h.cut 1 (by omega) (by rw [hf]; simp)
  rw [hf, hg] at h1
  exact h1
 clear h h1 hu1 hz1 hread hread2 hread3 hrb hbm hf hg hfv hb hn hsv hfq hgl hfin
 go_enter Tryd.func33, Tryd.ntmps33
 go_upto_region 1 with fail
 refine wp_region_noPanic ?_
 refine wp_region_L (S := fun w' => w'.cell? ⟨mb, 5, none⟩ = some (.slice (some ⟨fb, 0, none⟩) (below.length + 1) c)) 14 (by kernel_rfl) ?_ (fun hHeld => ?_)
 ·exact m5
 refine Nx.start [(0, []), (1, []), (2, []), (3, []), (4, []), (5, []), (6, []), (7, []), (8, []), (9, []), (10, []), (11, [])] ?_
 iterate 12
  refine Nx.l (oi := ?_) (v := ?_) ?_ (by kernel_rfl) (fun _ _ _ h => h) ?_ ?_ hHeld ?_
  rotate_left 2
  ·simp only [List.getElem?_toArray, List.getElem?_cons_zero, List.getElem?_cons_succ]; rfl
  ·rfl
  ·intro _ hSw; (try dsimp only at hSw); go_simp <;> with_reducible rfl
  (try simp only [Act.put, List.setIfInBounds_toArray, List.set_cons_zero, List.set_cons_succ])
 refine Nx.stop ?_
 refine wpAnyL_one (i := 12) (o := ?_) (by kernel_rfl) ?_ (fun K hK => ?_)
 rotate_left 1
 ·simp only [List.getElem?_toArray, List.getElem?_cons_zero, List.getElem?_cons_succ]; rfl
 clear hHeld
 go_simp
 refine hK.out _ _ ?_ (fun hHeld => ?_)
 ·exact m5
 clear hK K
 (try simp only [Act.put, List.setIfInBounds_toArray, List.set_cons_zero, List.set_cons_succ])
 refine wpAnyL_take (i := 13) (oi := ?_) (v := ?_) ?_ (by kernel_rfl) (by kernel_rfl) (by kernel_rfl) (by kernel_rfl) (fun _ _ _ h => h) (Or.inl ⟨?_, ?_⟩) hHeld ?_
 rotate_left 2
 ·simp only [List.getElem?_toArray, List.getElem?_cons_zero, List.getElem?_cons_succ]; rfl
 ·rfl
 ·intro _ hSw; (try dsimp only at hSw); go_simp <;> with_reducible rfl
 (try simp only [Act.put, List.setIfInBounds_toArray, List.set_cons_zero, List.set_cons_succ])
 refine wpAnyL_last (o := ?_) (by kernel_rfl) ?_ (fun K hK => ?_)
 rotate_left 1
 ·simp only [List.getElem?_toArray, List.getElem?_cons_zero, List.getElem?_cons_succ]; rfl
 clear hHeld
 go_simp
 refine hK.out _ _ ?_
 clear hK K
 (try simp only [Act.put, List.setIfInBounds_toArray, List.set_cons_zero, List.set_cons_succ])
 refine wpAnyL_done (by kernel_rfl) ?_ _
 refine NoPanic.normal ?_
 have hz1 : (w.setCell ⟨mb, 5, none⟩ (.slice (some ⟨fb, 0, none⟩) below.length c)).drew.heap.size = w.heap.size := HZW.out
 have hu1 : Upd [mb] w (w.setCell ⟨mb, 5, none⟩ (.slice (some ⟨fb, 0, none⟩) below.length c)).drew := HU1.out.drew
 have h1 : MAt B (w.setCell ⟨mb, 5, none⟩ (.slice (some ⟨fb, 0, none⟩) below.length c)).drew U R mb ib p { S with frs := below } { X with fv := .slice (some ⟨fb, 0, none⟩) below.length c, gs := gb } := H1.out.drew
 have hrd : VlV (w.setCell ⟨mb, 5, none⟩ (.slice (some ⟨fb, 0, none⟩) below.length c)).drew (.slice sp f.stk.length sc) bq 0 f.stk := HRD.out
 clear H1 HU1 HZW HRD
 generalize (w.setCell ⟨mb, 5, none⟩ (.slice (some ⟨fb, 0, none⟩) below.length c)).drew = w1 at hz1 hu1 h1 hrd ⊢
 have HRD := Lib.hid hrd
 have H1 := Lib.hid h1
 have HU1 := Lib.hid hu1
 have HZQ := Lib.hid hz1
 have hb := h1.box
 rw [mccells] at hb
 clear hrd hu1 hz1 m5 z5 c3
 have hR1 : Upd R w w1 := HU1.out.mono (T := R) (fun b hb _ => by rw [List.mem_singleton] at hb; rw [hb]; exact HH.out.mine)
 have HR1 := Lib.hid hR1
 clear hR1
 cases below with
 | nil =>
  have m5 : w1.cell? ⟨mb, 5, none⟩ = some (.slice (some ⟨fb, 0, none⟩) 0 c) := by rw [cell_of hb]; rfl
  have hbb : w1.heap[mb]? = some (.cells #[.pointer (some ⟨ib, 0, none⟩), X.cv, X.mv, X.iv, .int .i64 S.fuel, .slice (some ⟨fb, 0, none⟩) 0 c, X.ov, .int .i64 0, .int .i64 0, .int .i64 0, .int .i64 0, .int .i64 0, X.uv, .bool false] 78) := by
   rw [hb]
   simp only [HFIN.out]
   rfl
  have m7 : w1.cell? ⟨mb, 7, none⟩ = some (.int .i64 0) := by rw [cell_of hbb]; rfl
  have m11 : w1.cell? ⟨mb, 11, none⟩ = some (.int .i64 0) := by rw [cell_of hbb]; rfl
  have m13 : w1.cell? ⟨mb, 13, none⟩ = some (.bool false) := by rw [cell_of hbb]; rfl
  have z7 := froz_of hbb 7
  have z11 := froz_of hbb 11
  have z13 := froz_of hbb 13
  have HB := Lib.hid hbb
  have k7 := heap_setCell hbb 7 (.int .i64 1)
  have k13 := heap_setCell k7 13 (.bool true)
  have HK13 := Lib.hid k13
  clear hb hbb h1 k7 k13
  by_cases hst : f.stk = []
  ·have hl0 : f.stk.length = 0 := by rw [hst]; rfl
   rw [hl0]
   have HST := Lib.hid hst
   clear hl0 hs1 hfn hst
   go_wp2_with fail
   go_end0
   have hu2 : Upd [mb] w1 ((w1.setCell ⟨mb, 7, none⟩ (.int .i64 1)).setCell ⟨mb, 13, none⟩ (.bool true)) := ((Upd.refl [mb] w1).setCell (.inl (by simp)) _).setCell (.inl (by simp)) _
   have h2 := H1.out.boxed (S' := S.retF f []) (iv' := X.iv) hu2 (by rw [HK13.out, Mc.retF, HST.out]; rfl) rfl rfl rfl H1.out.inp
   have hz2 : ((w1.setCell ⟨mb, 7, none⟩ (.int .i64 1)).setCell ⟨mb, 13, none⟩ (.bool true)).heap.size = w.heap.size := by rw [size_set, size_set, HZQ.out]
   refine ⟨rfl, ⟨{ X with fv := .slice (some ⟨fb, 0, none⟩) 0 c, gs := gb }, ?_⟩, HR1.out.trans' hu2 (fun b hb _ => by rw [List.mem_singleton] at hb; rw [hb]; exact HH.out.mine)⟩
   rw [news_same hz2, news_self, List.append_nil, List.append_nil]
   exact h2
  ·obtain ⟨v, l, hvl⟩ := List.exists_cons_of_ne_nil hst
   have hl0 : 0 < f.stk.length := by rw [hvl]; simp
   obtain ⟨⟨p', c', he, hp⟩, hcell⟩ := HRD.out
   injection he with e1 _ e3
   subst e1 e3
   obtain rfl := hp hst
   obtain ⟨_, q1⟩ := hcell 0 hl0
   have q2 : w1.cell? ⟨bq, 1, none⟩ = some (.int .i64 v.n) := by
    rw [hvl] at q1
    exact q1
   have hl0' : (0 : Int) < (f.stk.length : Int) := by omega
   have HVL := Lib.hid hvl
   have hne : bq ≠ mb := HBM.out hst
   clear hp hcell q1 hst hvl HRD
   have y2 : ((w1.setCell ⟨mb, 7, none⟩ (.int .i64 1)).setCell ⟨mb, 13, none⟩ (.bool true)).cell? ⟨bq, 1, none⟩ = some (.int .i64 v.n) := (((Upd.refl [mb] w1).setCell (.inl (by simp)) _).setCell (.inl (by simp)) _).cell q2 (by simpa using hne)
   go_wp2_with fail
   go_end0
   have hu2 : Upd [mb] w1 (((w1.setCell ⟨mb, 7, none⟩ (.int .i64 1)).setCell ⟨mb, 13, none⟩ (.bool true)).setCell ⟨mb, 11, none⟩ (.int .i64 v.n)) := (((Upd.refl [mb] w1).setCell (.inl (by simp)) _).setCell (.inl (by simp)) _).setCell (.inl (by simp)) _
   have h2 := H1.out.boxed (S' := S.retF f []) (iv' := X.iv) hu2 (by rw [heap_setCell HK13.out, Mc.retF, HVL.out]; rfl) rfl rfl rfl H1.out.inp
   have hz2 : (((w1.setCell ⟨mb, 7, none⟩ (.int .i64 1)).setCell ⟨mb, 13, none⟩ (.bool true)).setCell ⟨mb, 11, none⟩ (.int .i64 v.n)).heap.size = w.heap.size := by rw [size_set, size_set, size_set, HZQ.out]
   refine ⟨rfl, ⟨{ X with fv := .slice (some ⟨fb, 0, none⟩) 0 c, gs := gb }, ?_⟩, HR1.out.trans' hu2 (fun b hb _ => by rw [List.mem_singleton] at hb; rw [hb]; exact HH.out.mine)⟩
   rw [news_same hz2, news_self, List.append_nil, List.append_nil]
   exact h2
 | cons g2 under =>
  have hg2n : g2.stk.length ≤ 1000 := HHN.out g2 (by simp)
  have m5 : w1.cell? ⟨mb, 5, none⟩ = some (.slice (some ⟨fb, 0, none⟩) (under.length + 1) c) := by rw [cell_of hb]; rfl
  obtain ⟨gv, gb2, fb3, c4, hgv, hgl2, hfv3, _, _, _, ⟨fq2, hfq2⟩, _, _, _, t3⟩ := h1.top rfl
  injection hfv3 with e1 _ e3
  injection e1 with e1
  injection e1 with e1
  subst e1 e3
  obtain ⟨sp2, hsv2⟩ := HCT.out g2 under rfl
  have hgv2 : gb = gv :: gb2 := hgv
  rw [hgv2] at hsv2
  have hsv3 : gv.sv = .slice sp2 g2.stk.length g2.stk.length := hsv2
  obtain ⟨_, sp3, sc3, hsv4, _, _, hs5⟩ := h1.topV (f := g2) (below := under) rfl hgv
  rw [hsv3] at t3 hsv4
  injection hsv4 with e1 _ e3
  subst e1 e3
  have hst0 := h1.stk 0 (by simp)
  have ege : ({ X with fv := .slice (some ⟨fb, 0, none⟩) (g2 :: under).length c, gs := gb } : MX).gs.getD 0 default = gv := by show gb.getD 0 default = gv; rw [hgv2]; rfl
  rw [ege] at hst0
  obtain ⟨b2, hrd2, hrb2⟩ := hst0.read
  rw [hsv3] at hrd2
  have hrd3 : VlV w1 (.slice sp2 g2.stk.length g2.stk.length) b2 0 g2.stk := hrd2
  have HSP : Hid (sp2 = none → g2.stk.length = 0) := hs5
  have HSRC : Hid (SrcV w1.drew (.slice sp f.stk.length sc) f.stk.length (vcells f.stk)) := (HRD.out).src
  have HOL : Hid (∀ b, sp2 = some b → ∀ j u, (vcells g2.stk)[j]? = some u → w1.drew.cell? (b.add j) = some u) := fun b hb j u hj => by
   have hne : g2.stk ≠ [] := fun e => by rw [e] at hj; simp [vcells] at hj
   obtain ⟨⟨p', c', he, hp⟩, _⟩ := id hrd3
   injection he with e1
   subst e1
   have h5 := (hp hne).symm.trans hb
   injection h5 with h5
   subst h5
   rw [Addr.add_lit, Nat.zero_add]
   have := hrd3.cells j u hj
   rwa [Nat.zero_add] at this
  have z5 := froz_of hfq2 (under.length * 4 + 3)
  have hU : S.retF f (g2 :: under) = { S with frs := { g2 with stk := g2.stk ++ f.stk } :: under } := rfl
  have HAPP : Hid (∀ v' w7, ((f.stk.length = 0 ∧ v' = .slice sp2 g2.stk.length g2.stk.length ∧ w7 = w1.drew) ∨ (0 < f.stk.length ∧ w7.ownsRow w1.drew.heap.size 85 2 v' (g2.stk.length + f.stk.length) (vcells g2.stk ++ vcells f.stk) ∧ w1.drew.grownBy w7 none)) → (∃ p7 c7, v' = .slice p7 (g2.stk.length + f.stk.length) c7) ∧ (w7.cell? ⟨mb, 5, none⟩ = some (.slice (some ⟨fb, 0, none⟩) (under.length + 1) c) ∧ w7.cell? ⟨fb, under.length * 4 + 3, none⟩ = some (.slice sp2 g2.stk.length g2.stk.length)) ∧ w7.frozen? ⟨fb, under.length * 4 + 3, none⟩ = false ∧
    Hid ((∃ X', MAt B (w7.setCell ⟨fb, under.length * 4 + 3, none⟩ v') (U ++ news w (w7.setCell ⟨fb, under.length * 4 + 3, none⟩ v')) (R ++ news w (w7.setCell ⟨fb, under.length * 4 + 3, none⟩ v')) mb ib p (S.retF f (g2 :: under)) X') ∧ Upd R w (w7.setCell ⟨fb, under.length * 4 + 3, none⟩ v'))) := fun v' w7 hc => by
   have hu7 : Upd [] w1 w7 := by
    rcases hc with ⟨_, _, rfl⟩ | ⟨_, _, hgr⟩
    ·exact (Upd.refl [] w1).drew
    ·exact ((Upd.refl [] w1).drew).grown hgr (by simp)
   have hsh : ∃ p7 c7, v' = .slice p7 (g2.stk.length + f.stk.length) c7 := by
    rcases hc with ⟨h0, rfl, _⟩ | ⟨h0, hown, _⟩
    ·exact ⟨sp2, g2.stk.length, by rw [h0]; rfl⟩
    ·obtain ⟨g', c', _, hv, _⟩ := own_pos hown (by omega)
     exact ⟨_, _, hv⟩
   have hW := h1.new hu7
   have hst : StV w7 (R ++ news w1 w7) (blks (gb.map FmV.lv)) (blks X.os) v' (g2.stk ++ f.stk) := by
    rcases hc with ⟨h0, rfl, _⟩ | ⟨h0, hown, _⟩
    ·have hn0 : f.stk = [] := List.eq_nil_of_length_eq_zero h0
     rw [hn0, List.append_nil]
     have h8 := hW.stk 0 (by simp)
     rw [ege, hsv3] at h8
     exact h8
    ·obtain ⟨g', c', cur, hv, hg', hcur, hc1', hc2'⟩ := own_pos hown (by omega)
     have hg2' : w1.heap.size ≤ g' := hg'
     have hown2 : OwnV 85 w7 w1.heap.size v' (g2.stk ++ f.stk) := by
      unfold OwnV
      rw [vcells_app, List.length_append]
      exact hown
     obtain ⟨b, h2, h3⟩ := hown2.read
     refine ⟨⟨b, h2, fun hne => ?_⟩, ⟨some ⟨g', 0, none⟩, c', by rw [hv, List.length_append], by rw [List.length_append]; exact hc1', hc2', fun e => by cases e⟩⟩
     have hb : b = g' := by
      rcases h3 with h3 | h3
      ·exact absurd h3 hne
      ·rw [hv] at h3
       simp only [Value.ownBlock, Option.some.injEq] at h3
       exact h3.symm
     subst hb
     refine ⟨List.mem_append.2 (.inr (mem_news.2 ⟨hg2', lt_of_heap hcur⟩)), fun hm => ?_, fun hm => ?_, cur, hcur⟩
     ·have := h1.loc.lt _ hm; omega
     ·have := h1.val.lt _ hm; omega
   have h2 := hW.setTop (f := g2) (below := under) (f' := { g2 with stk := g2.stk ++ f.stk }) (g' := ⟨gv.lv, v'⟩) (k := 3) (u := v') rfl hgv rfl (by omega) rfl rfl rfl hst
   have hz : (w7.setCell ⟨fb, under.length * 4 + 3, none⟩ v').heap.size = w7.heap.size := size_set _ _ _
   have hnw : news w w7 = news w1 w7 := by unfold news; rw [HZQ.out]
   refine ⟨hsh, ⟨hu7.cell m5 (by simp), hu7.cell t3 (by simp)⟩, froz_of (hu7.heap hfq2 (by simp)) _, ?_, ?_⟩
   ·rw [news_same hz, hnw, hU]
    exact ⟨_, h2.1⟩
   ·have hR1 : Upd R w w1 := HU1.out.mono (T := R) (fun b hb _ => by rw [List.mem_singleton] at hb; rw [hb]; exact HH.out.mine)
    exact (hR1.trans (hu7.mono (T := R) (by simp))).trans' h2.2 (fun b hb _ => by rw [List.mem_singleton] at hb; rw [hb]; exact hR)
  have k0 : w1.cell? ⟨mb, 5, none⟩ = some (.slice (some ⟨fb, 0, none⟩) (under.length + 1) c) ∧ w1.cell? ⟨fb, under.length * 4 + 3, none⟩ = some (.slice sp2 g2.stk.length g2.stk.length) := ⟨m5, t3⟩
  have hml : under.length + 1 ≤ 9223372036854775806 := by simp at hm; omega
  have e1 : IntKind.i64.wrap (((under.length + 1 : Nat) : Int) - 1) = (under.length : Int) := by rw [IntWalk.i64_in _ (by omega)]; omega
  have e0 : IntKind.i64.wrap (under.length : Int) = (under.length : Int) := IntWalk.i64_in _ (by omega)
  have hul : under.length < under.length + 1 := by omega
  have hul2 : (under.length : Int) < (under.length : Int) + 1 := by omega
  have hpos : (0 : Int) < ((under.length + 1 : Nat) : Int) := by omega
  clear h1 hb hgv hgv2 hsv2 hsv3 hst0 ege hrd2 hrd3 hrb2 hs5 hU s1 s0 hl1 hl2 hgl2
  simp only [List.length_cons] at *
  go_upto_region 4 with fail
  refine wp_region_noPanic ?_
  refine wp_region_L (S := fun w' => w'.cell? ⟨mb, 5, none⟩ = some (.slice (some ⟨fb, 0, none⟩) (under.length + 1) c) ∧ w'.cell? ⟨fb, under.length * 4 + 3, none⟩ = some (.slice sp2 g2.stk.length g2.stk.length)) 19 (by kernel_rfl) ?_ (fun hHeld => ?_)
  ·first | exact k0 | exact k1
  refine Nx.start [(0, []), (1, []), (2, []), (3, []), (4, []), (5, []), (6, []), (7, []), (8, []), (9, []), (10, []), (11, []), (12, []), (13, []), (14, []), (15, [])] ?_
  iterate 16
   refine Nx.l (oi := ?_) (v := ?_) ?_ (by kernel_rfl) (fun _ _ _ h => h) ?_ ?_ hHeld ?_
   rotate_left 2
   ·simp only [List.getElem?_toArray, List.getElem?_cons_zero, List.getElem?_cons_succ]; rfl
   ·rfl
   ·intro _ hSw; (try dsimp only at hSw); go_simp <;> with_reducible rfl
   (try simp only [Act.put, List.setIfInBounds_toArray, List.set_cons_zero, List.set_cons_succ])
  refine Nx.stop ?_
  refine wpAnyL_one (i := 16) (o := ?_) (by kernel_rfl) ?_ (fun K hK => ?_)
  rotate_left 1
  ·simp only [List.getElem?_toArray, List.getElem?_cons_zero, List.getElem?_cons_succ]; rfl
  clear hHeld
  (refine step_append_cut rfl (.tmp 45) (.tmp 46) 80 rfl 85 i0 (.agg #[.bool false, .int .i64 0]) 2 16 Tryd.underlying80 HI.out HZ0.out HZ1.out HZ2.out rfl (by decide) sp2 g2.stk.length (vcells g2.stk) rfl HSP.out (vcells_len _) HOL.out (.slice sp f.stk.length sc) f.stk.length (vcells f.stk) rfl HSRC.out (vcells_len _) (vcells_one _) (by unfold maxLen; omega) (by omega) ?_; intro v' w7 hcase; obtain ⟨⟨p7, c7, rfl⟩, k1, z7, HM⟩ := HAPP.out v' w7 hcase; clear hcase)
  refine hK.out _ _ ?_ (fun hHeld => ?_)
  ·first | exact k0 | exact k1
  clear hK K
  (try simp only [Act.put, List.setIfInBounds_toArray, List.set_cons_zero, List.set_cons_succ])
  refine wpAnyL_one (i := 17) (o := ?_) (by kernel_rfl) ?_ (fun K hK => ?_)
  rotate_left 1
  ·simp only [List.getElem?_toArray, List.getElem?_cons_zero, List.getElem?_cons_succ]; rfl
  clear hHeld
  go_simp
  refine hK.out _ _ ?_ (fun hHeld => ?_)
  ·first | exact k0 | exact k1
  clear hK K
  (try simp only [Act.put, List.setIfInBounds_toArray, List.set_cons_zero, List.set_cons_succ])
  refine wpAnyL_take (i := 18) (oi := ?_) (v := ?_) ?_ (by kernel_rfl) (by kernel_rfl) (by kernel_rfl) (by kernel_rfl) (fun _ _ _ h => h) (Or.inl ⟨?_, ?_⟩) hHeld ?_
  rotate_left 2
  ·simp only [List.getElem?_toArray, List.getElem?_cons_zero, List.getElem?_cons_succ]; rfl
  ·rfl
  ·intro _ hSw; (try dsimp only at hSw); go_simp <;> with_reducible rfl
  (try simp only [Act.put, List.setIfInBounds_toArray, List.set_cons_zero, List.set_cons_succ])
  refine wpAnyL_last (o := ?_) (by kernel_rfl) ?_ (fun K hK => ?_)
  rotate_left 1
  ·simp only [List.getElem?_toArray, List.getElem?_cons_zero, List.getElem?_cons_succ]; rfl
  clear hHeld
  go_simp
  refine hK.out _ _ ?_
  clear hK K
  (try simp only [Act.put, List.setIfInBounds_toArray, List.set_cons_zero, List.set_cons_succ])
  refine wpAnyL_done (by kernel_rfl) ?_ _
  refine NoPanic.normal ?_
  go_wp2_with fail
  refine bodyPost_ret (results_none rfl _ _ _) rfl ?_
  exact ⟨rfl, HM.out⟩
end
end Go.Proofs.YtojobkhidlfeoaaDoor
