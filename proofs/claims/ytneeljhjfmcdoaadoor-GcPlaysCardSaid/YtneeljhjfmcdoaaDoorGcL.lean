/- What a collection of all leaves, in plain Lean: just the words of what can be reached; the spaces' bounds stay. Objects that are kept over a collection; a heap that is made in a law. -/
import Derived.Test.YtneeljhjfmcdoaaDoorGcS
namespace Go.Proofs.YtneeljhjfmcdoaaDoor

theorem sumW_perm (S : Hp) {a b : List Int} (h : a.Perm b) : sumW S a = sumW S b := by
  induction h with
  | nil => rfl
  | cons x _ ih => simp only [sumW, ih]
  | swap x y l => simp only [sumW]; omega
  | trans _ _ i1 i2 => exact i1.trans i2

/-- The bounds of the spaces. -/
def Hp.bnd (S : Hp) : List Int := [S.y.fr, S.y.to, S.h0.fr, S.h0.to, S.h1.fr, S.h1.to]
theorem laid_bnd {S : Hp} {k : Nat} (hk : k < 3) (c wd : Int) : (S.laid k c wd).bnd = S.bnd := by
  have e0 := laid_sp S k 0 c wd hk (by omega)
  have e1 := laid_sp S k 1 c wd hk (by omega)
  have e2 := laid_sp S k 2 c wd hk (by omega)
  have f0 : (S.laid k c wd).y = _ := e0
  have f1 : (S.laid k c wd).h0 = _ := e1
  have f2 : (S.laid k c wd).h1 = _ := e2
  have hk' : k = 0 ∨ k = 1 ∨ k = 2 := by omega
  unfold Hp.bnd
  rw [f0, f1, f2]
  rcases hk' with rfl | rfl | rfl <;> rfl
theorem layK_bnd {S : Hp} {k : Nat} (hk : k < 3) (c n : Int) : (S.layK k c n).bnd = S.bnd := by
  unfold Hp.layK
  split
  · exact laid_bnd hk _ _
  · rfl
theorem put_bnd (S : Hp) (r i v : Int) : (S.put r i v).bnd = S.bnd := by
  unfold Hp.bnd
  rw [put_y, put_h0, put_h1]
theorem after_bnd {X : Cx} (M : Mv) (bg mr : List Nat) : (X.after M bg mr).bnd = X.S.bnd := by
  have e : ∀ k, (X.spE M k).fr = (X.S.sp k).fr ∧ (X.spE M k).to = (X.S.sp k).to := fun k => by
    unfold Cx.spE
    split
    · rename_i h; subst h; exact ⟨rfl, rfl⟩
    · split <;> exact ⟨rfl, rfl⟩
  show [(X.spE M 0).fr, (X.spE M 0).to, (X.spE M 1).fr, (X.spE M 1).to, (X.spE M 2).fr, (X.spE M 2).to] = _
  rw [(e 0).1, (e 0).2, (e 1).1, (e 1).2, (e 2).1, (e 2).2]
  rfl

/-- All that can be reached has been moved, and nothing else. -/
theorem done_perm {S : Hp} (hS : S.Ok) {rs : List Int} {sc : Int → Nat → Bool} {M : Mv} {bg : List Nat} (hd : Done S true rs sc M bg) : (M.mv.map Prod.fst).Perm (S.reach rs) := by
  have hfrm : ∀ a, S.is a = true → (S.cx true).frm a = true := fun a ha => by
    show (S.is a && (true || S.inY a)) = true
    rw [ha]; rfl
  refine (List.perm_ext_iff_of_nodup hd.fin.m.nd (reach_inN hS rs).1).2 (fun a => ⟨fun h => ?_, fun h => ?_⟩)
  · obtain ⟨p, hp, rfl⟩ := List.mem_map.1 h
    have := (hd.fin.m.frm p.1 p.2 hp).2
    exact this
  · refine reach_all (P := fun a => a ∈ M.mv.map Prod.fst) (fun r hr hi => hd.roots r hr (hfrm r hi)) (fun a ha j hj hb hi => ?_) a h
    have hin := fwL_some ha
    exact hd.fin.m.scm a _ (.inl hin) j hj (hd.fin.full a _ hin j hj) hb (hfrm _ hi)
theorem done_top {S : Hp} (hS : S.Ok) (hI : S.Inv) {rs : List Int} {sc : Int → Nat → Bool} {M : Mv} {bg mr : List Nat} (hd : Done S true rs sc M bg) :
    (((S.cx true).after M bg mr).old).top = (((S.cx true).after M bg mr).old).fr + sumW S (S.reach rs) ∧ (((S.cx true).after M bg mr).old).fr = (S.sp (3 - S.oldK)).fr ∧ (((S.cx true).after M bg mr).old).to = (S.sp (3 - S.oldK)).to := by
  have hk := oldK_12 S
  have htk : (S.cx true).tk = 3 - S.oldK := rfl
  have e : ((S.cx true).after M bg mr).oldK = 3 - S.oldK := by
    unfold Hp.oldK
    show (if (if true = true then 1 - S.now else S.now) = 0 then 1 else 2) = 3 - (if S.now = 0 then 1 else 2)
    rcases hS.now with e | e <;> rw [e] <;> rfl
  have eo : ((S.cx true).after M bg mr).old = { S.sp (3 - S.oldK) with top := M.top } := by
    rw [← sp_oldK, e, after_sp _ _ _ _ _ (by omega)]
    unfold Cx.spE
    rw [htk, if_pos rfl]
    rfl
  rw [eo]
  refine ⟨?_, rfl, rfl⟩
  show M.top = (S.sp (3 - S.oldK)).fr + _
  have ht := hd.fin.m.top
  unfold Cx.T0 at ht
  rw [htk] at ht
  have hh := hI.half
  unfold Hp.Half at hh
  rw [ht, show ((S.cx true).S.sp (3 - S.oldK)).top = (S.sp (3 - S.oldK)).fr from hh]
  have : sumW (S.cx true).S (M.mv.map Prod.fst) = sumW S (S.reach rs) := sumW_perm S (done_perm hS hd)
  rw [this]
/-- There is nothing to be marked. -/
theorem left_marks (S : Hp) (all : Bool) (M : Mv) (bg : List Nat) : plus1 (blist ((S.cx all).after M bg (List.replicate ((S.A.length + 63) / 64) 0)).mr) = [] := by
  have : blist (List.replicate ((S.A.length + 63) / 64) 0) = [] := List.eq_nil_iff_forall_not_mem.2 (fun x hx => by
    have := (mem_blist _ _).1 hx
    rw [bhas_zero] at this
    cases this)
  show plus1 (blist (List.replicate ((S.A.length + 63) / 64) 0)) = []
  rw [this]; rfl
end Go.Proofs.YtneeljhjfmcdoaaDoor

/-! Objects that are kept over a collection; a heap that is made in a law; collections of rows of one's own. -/
namespace Go.Proofs.YtneeljhjfmcdoaaDoor
open Go.RowKit

theorem and_15 (a : Int) : bits BinOp.and IntKind.i64 a 15 = a % 16 := and_mask a 4 15 (by omega) (by decide)

/-- A slice value reads as these objects, from blocks B to E. -/
def ObjsR (B E : Nat) (w : World) (uv : Value) (os : List (Int × List Int)) : Prop :=
  ∃ p cap, uv = .slice p os.length cap ∧ ∀ k, k < os.length → ∃ ub v b, p = some ⟨ub, 0, none⟩ ∧ w.cell? ⟨ub, 2 * k, none⟩ = some (.int .i64 (os.getD k (0, [])).1) ∧ w.cell? ⟨ub, 2 * k + 1, none⟩ = some v ∧ IntsV w v b (os.getD k (0, [])).2 ∧ (B ≤ ub ∧ ub < E) ∧ ((os.getD k (0, [])).2 = [] ∨ B ≤ b ∧ b < E)
theorem ObjsR.v {B E : Nat} {w : World} {uv : Value} {os : List (Int × List Int)} (h : ObjsR B E w uv os) : ObjsV w uv os := by
  obtain ⟨p, cap, h1, h2⟩ := h
  refine ⟨p, cap, h1, fun k hk => ?_⟩
  obtain ⟨ub, v, b, h3, h4, h5, h6, _⟩ := h2 k hk
  exact ⟨ub, v, b, h3, h4, h5, h6⟩
theorem ObjsR.upd {B E : Nat} {w w' : World} {uv : Value} {os : List (Int × List Int)} {T : List Nat} (h : ObjsR B E w uv os) (hu : Upd T w w') (hT : ∀ i ∈ T, i < B ∨ E ≤ i) : ObjsR B E w' uv os := by
  obtain ⟨p, cap, h1, h2⟩ := h
  refine ⟨p, cap, h1, fun k hk => ?_⟩
  obtain ⟨ub, v, b, h3, h4, h5, h6, h7, h8⟩ := h2 k hk
  have hno : ∀ i, B ≤ i ∧ i < E → i ∉ T := fun i hi hm => by have := hT i hm; omega
  exact ⟨ub, v, b, h3, hu.cell h4 (hno _ h7), hu.cell h5 (hno _ h7), h6.upd hu (h8.imp id (hno _)), h7, h8⟩
theorem OutSt.objsR {w : World} {B : Nat} {L : HL} {cv mv : Value} {S : Hp} {ov : Value} {od : List Int} {av : Value} {ats : List Int} {uv : Value} {ps : List OP} {os : List (Int × List Int)} (h : OutSt w B L cv mv S ov od av ats uv ps) (hos : ps.map OP.o = os) : ObjsR B w.heap.size w uv os := by
  subst hos
  have hl : (ps.map OP.o).length = ps.length := by simp
  by_cases h0 : 0 < ps.length
  · obtain ⟨ub, cap, h1, h2⟩ := h.obj1 h0
    have hb := h.out.lt ub (by rw [h1]; rfl)
    refine ⟨_, cap, by rw [hl]; exact h1, fun k hk => ?_⟩
    rw [hl] at hk
    obtain ⟨c1, c2⟩ := h2 k hk
    have e : (ps.map OP.o).getD k (0, []) = (ps[k].c, ps[k].xs) := by
      rw [List.getD_eq_getElem?_getD, List.getElem?_map, List.getElem?_eq_getElem hk]; rfl
    rw [e]
    obtain ⟨v1, v2⟩ := h.vals _ (List.getElem_mem hk)
    exact ⟨ub, _, _, rfl, c1, c2, v1, ⟨by omega, hb.2⟩, v2.imp id (fun v => ⟨by omega, v.2.1⟩)⟩
  · have hps : ps = [] := List.eq_nil_of_length_eq_zero (by omega)
    subst hps
    rcases h.out.2 with ⟨h1, _⟩ | ⟨g, cap, cur, h1, _⟩
    · exact ⟨none, 0, h1, by simp⟩
    · exact ⟨_, _, h1, by simp⟩
theorem OutSt.numsR {w : World} {B : Nat} {L : HL} {cv mv : Value} {S : Hp} {ov : Value} {od : List Int} {av : Value} {ats : List Int} {uv : Value} {ps : List OP} (h : OutSt w B L cv mv S ov od av ats uv ps) : ∃ b, IntsV w av b ats ∧ (ats = [] ∨ B ≤ b ∧ b < w.heap.size) := by
  obtain ⟨b, h1, _⟩ := IntsV.of_row h.ats
  refine ⟨b, h1, ?_⟩
  rcases h1.1 with ⟨_, h2⟩ | ⟨cap, h2⟩
  · exact .inl h2
  · have := h.ats.lt b (by rw [h2]; rfl)
    exact .inr ⟨by omega, this.2⟩

/-- A heap that is made in a law. -/
theorem newat_any (cv0 mv0 : Value) (b o : Nat) (cs : List ByteArray) (lim nur : Int) (w : World) (h : ClsAt w cv0 b o cs) (h0 : 0 ≤ nur) (h1 : nur ≤ lim) (h2 : lim ≤ 65536) (hc : cs.length ≤ 12) (hs : ∀ c ∈ cs, c.size ≤ 10) (hT : TzAt w) :
    Calls Tryd.prog 19 #[.agg #[cv0, mv0], .int .i64 lim, .int .i64 nur] w fun e w' => ∃ L cv mv, e = .returned (.tuple #[.pointer (some ⟨L.hb, 0, none⟩), .nilIface]) ∧ GcAt w w' L cv mv (Hp.new cs lim nur) ∧ Upd [] w w' := by
  have htl := hT.lt
  refine (hnew_ok cv0 mv0 b o cs lim nur w h h0 h1 h2 hc hs (by omega)).mono ?_
  rintro e w1 ⟨L, cv, mv, rfl, hH, hu, hlo⟩
  have hN : NewAt w w1 L cv mv (Hp.new cs lim nur) := ⟨hH, hu, HL.above hH.nd (fun i hi => (hlo i hi).1), fun i hi => (hlo i hi).2, fun i hi e => by
    rcases (hlo i hi).1 with h | h
    · rw [h.1] at e; exact absurd e (by decide)
    · omega⟩
  exact ⟨L, cv, mv, rfl, hN.gc hT, hu⟩

section
variable {w0 w : World} {L : HL} {cv mv : Value} {S : Hp} (h : GcAt w0 w L cv mv S)
include h
theorem gmajor2 (p : Option Addr) (cap rb : Nat) (rs : List Int) (hn : rs.length ≤ 100000) (hp : rs = [] ∨ p = some ⟨rb, 0, none⟩) (hr : ∀ i, i < rs.length → w.cell? ⟨rb, i, none⟩ = some (.int .i64 (rs.getD i 0))) (hrr : ∀ r ∈ rs, -9223372036854775808 ≤ r ∧ r ≤ 9223372036854775807) (hrb : rb ∉ L.own) :
    Calls Tryd.prog 14 #[.pointer (some ⟨L.hb, 0, none⟩), .slice p rs.length cap] w fun e w' => ∃ v, e = .returned v ∧ GcEnd w0 L cv mv S true rs w v w' ∧ Upd L.own w w' := by
  refine (major_any L cv mv S p cap rb rs w h.hp h.inv h.hi h.tt h.tz hn hp hr hrr (fun hm => hrb (by simp only [HL.own, List.mem_cons, List.not_mem_nil, or_false] at hm ⊢; rcases hm with e | e | e <;> simp [e]))).mono ?_
  rintro e w' ⟨v, rfl, hm⟩
  exact ⟨v, rfl, hm.gc h⟩
theorem gminor2 (p : Option Addr) (cap rb : Nat) (rs : List Int) (hn : rs.length ≤ 100000) (hp : rs = [] ∨ p = some ⟨rb, 0, none⟩) (hr : ∀ i, i < rs.length → w.cell? ⟨rb, i, none⟩ = some (.int .i64 (rs.getD i 0))) (hrr : ∀ r ∈ rs, -9223372036854775808 ≤ r ∧ r ≤ 9223372036854775807) (hrb : rb ∉ L.own) :
    Calls Tryd.prog 15 #[.pointer (some ⟨L.hb, 0, none⟩), .slice p rs.length cap] w fun e w' => ∃ v, e = .returned v ∧ GcEnd w0 L cv mv S false rs w v w' ∧ Upd L.own w w' := by
  refine (minor_any L cv mv S p cap rb rs w h.hp h.inv h.hi h.tt h.tz hn hp hr hrr (fun hm => hrb (by simp only [HL.own, List.mem_cons, List.not_mem_nil, or_false] at hm ⊢; rcases hm with e | e | e <;> simp [e]))).mono ?_
  rintro e w' ⟨v, rfl, hm⟩
  exact ⟨v, rfl, hm.gc h⟩
end
/-- Roots are in range. -/
theorem GcAt.rng {w0 w : World} {L : HL} {cv mv : Value} {S : Hp} (h : GcAt w0 w L cv mv S) {rs : List Int} (hr : ∀ r ∈ rs, r = 0 ∨ S.is r = true) : ∀ r ∈ rs, -9223372036854775808 ≤ r ∧ r ≤ 9223372036854775807 := fun r hm => by
  rcases hr r hm with e | e
  · omega
  · have := h.hp.ok.le e
    have := h.hp.ok.len
    omega
/-- A law's program of one class and one method. -/
structure OnePrg (wz wx : World) (s : ByteArray) : Prop where
  up : Upd [] wz wx
  c0 : wx.cell? ⟨wz.heap.size + 1 + 1 + 1, 0, none⟩ = some (.slice (some ⟨wz.heap.size, 0, none⟩) 1 1)
  c1 : wx.cell? ⟨wz.heap.size + 1 + 1 + 1, 1, none⟩ = some (.slice (some ⟨wz.heap.size + 1 + 1, 0, none⟩) 1 1)
  cls : ClsAt wx (.slice (some ⟨wz.heap.size, 0, none⟩) 1 1) wz.heap.size 0 [s]
theorem onePrg (wz : World) (s : ByteArray) : OnePrg wz ((((wz.alloc (Obj.cells #[Value.string s] 44)).alloc (Obj.cells #[Value.int IntKind.i64 33, Value.int IntKind.i64 0, Value.int IntKind.i64 0, Value.int IntKind.i64 0] 46)).alloc (Obj.cells #[Value.string { data := #[] }, Value.string { data := #[] }, Value.string { data := #[] }, Value.slice (some { block := wz.heap.size + 1, off := 0 }) 1 1] 49)).alloc (Obj.cells #[Value.slice (some { block := wz.heap.size, off := 0 }) 1 1, Value.slice (some { block := wz.heap.size + 1 + 1, off := 0 }) 1 1] 28)) s := by
  have h1 := heap_alloc_new wz (Obj.cells #[Value.string s] 44)
  have h2 := ((((Upd.refl [] (wz.alloc (Obj.cells #[Value.string s] 44))).alloc (Obj.cells #[Value.int IntKind.i64 33, Value.int IntKind.i64 0, Value.int IntKind.i64 0, Value.int IntKind.i64 0] 46)).alloc (Obj.cells #[Value.string { data := #[] }, Value.string { data := #[] }, Value.string { data := #[] }, Value.slice (some { block := wz.heap.size + 1, off := 0 }) 1 1] 49)).alloc (Obj.cells #[Value.slice (some { block := wz.heap.size, off := 0 }) 1 1, Value.slice (some { block := wz.heap.size + 1 + 1, off := 0 }) 1 1] 28)).heap h1 (by simp)
  have h3 := heap_alloc_new (((wz.alloc (Obj.cells #[Value.string s] 44)).alloc (Obj.cells #[Value.int IntKind.i64 33, Value.int IntKind.i64 0, Value.int IntKind.i64 0, Value.int IntKind.i64 0] 46)).alloc (Obj.cells #[Value.string { data := #[] }, Value.string { data := #[] }, Value.string { data := #[] }, Value.slice (some { block := wz.heap.size + 1, off := 0 }) 1 1] 49)) (Obj.cells #[Value.slice (some { block := wz.heap.size, off := 0 }) 1 1, Value.slice (some { block := wz.heap.size + 1 + 1, off := 0 }) 1 1] 28)
  simp only [World.size_alloc] at h3
  refine ⟨((((Upd.refl [] wz).alloc _).alloc _).alloc _).alloc _, by rw [cell_of h3]; rfl, by rw [cell_of h3]; rfl, ⟨.inr ⟨_, _, rfl, .inr rfl⟩, fun i hi => ?_⟩⟩
  obtain rfl : i = 0 := by simpa using hi
  rw [cell_of h2]
  rfl
end Go.Proofs.YtneeljhjfmcdoaaDoor
