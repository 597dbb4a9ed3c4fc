/- Heap.Move: what it asks for and leaves; its beginning. Heap.Move: what holds in its loops, and how each step keeps it. -/
import Derived.Test.YtneeljhjfmcdoaaDoorReachW
import Derived.Test.YtneeljhjfmcdoaaDoorObjsOf
import Derived.RegionTactic
/-! Heap.Move: what it asks for and leaves; its beginning. -/
namespace Go.Proofs.YtneeljhjfmcdoaaDoor
open Go.RowKit

/-- What always holds of a heap, beside Ok. -/
structure Hp.Inv (S : Hp) : Prop where
  zero : S.Zero
  wide : S.Wide
  tight : S.Tight
  barr : S.Barr
  mks : S.MkOk
  half : S.Half

/-- What a collection is about. -/
def Hp.cx (S : Hp) (all : Bool) : Cx := ⟨S, all, if all = true then 3 - S.oldK else S.oldK⟩
/-- Those that may be moved. -/
def Hp.may (S : Hp) (all : Bool) (rs : List Int) : List Int := if all = true then S.reach rs else S.youngs
/-- The words that a collection asks for. -/
def Hp.asks (S : Hp) (all : Bool) (rs : List Int) : Int := if all = true then sumW S (S.reach rs) else S.y.top - S.y.fr
/-- The words that there are. -/
def Hp.gives (S : Hp) (all : Bool) : Int := if all = true then (S.sp (3 - S.oldK)).to - (S.sp (3 - S.oldK)).fr else (S.sp S.oldK).to - (S.sp S.oldK).top

theorem oldK_12 (S : Hp) : S.oldK = 1 ∨ S.oldK = 2 := by unfold Hp.oldK; split <;> omega
theorem cx_tk (S : Hp) (all : Bool) : (S.cx all).tk = 1 ∨ (S.cx all).tk = 2 := by
  have := oldK_12 S
  unfold Hp.cx
  cases all <;> simp <;> omega
theorem cx_ok {S : Hp} (hS : S.Ok) (hI : S.Inv) (all : Bool) : (S.cx all).Ok := by
  have := cx_tk S all
  exact ⟨hS, hI.zero, hI.wide, by omega, by omega⟩
theorem cx_room {S : Hp} (hS : S.Ok) (hI : S.Inv) {all : Bool} {rs : List Int} (h : S.asks all rs ≤ S.gives all) : (S.cx all).Room (S.may all rs) := by
  have hh := hI.half
  unfold Hp.Half at hh
  unfold Cx.Room Cx.T0 Cx.tp Hp.cx Hp.may
  unfold Hp.asks Hp.gives at h
  cases all with
  | true =>
    simp only [if_true] at h ⊢
    omega
  | false =>
    simp only [Bool.false_eq_true, if_false] at h ⊢
    have := sum_youngs hS
    omega
/-- References of those that may be moved may be moved. -/
theorem may_ref {S : Hp} (hS : S.Ok) {all : Bool} {rs : List Int} {a : Int} (ha : a ∈ S.may all rs ∨ all = false) (j : Nat) (hj : (j : Int) < S.num a) (hb : S.refB a j = true) (hf : (S.cx all).frm (S.get a j) = true) : S.get a j ∈ S.may all rs := by
  unfold Hp.may at ha ⊢
  cases all with
  | true =>
    simp only [if_true] at ha ⊢
    rcases ha with ha | ha
    · exact reach_closed hS ha j hj hb (Cx.is hf)
    · cases ha
  | false =>
    simp only [Bool.false_eq_true, if_false]
    rw [mem_youngs hS]
    unfold Cx.frm at hf
    simp only [Hp.cx, Bool.and_eq_true, Bool.false_or] at hf
    exact hf.2
theorem may_root {S : Hp} (hS : S.Ok) {all : Bool} {rs : List Int} {r : Int} (hr : r ∈ rs) (hf : (S.cx all).frm r = true) : r ∈ S.may all rs := by
  unfold Hp.may
  cases all with
  | true =>
    simp only [if_true]
    exact reach_root hr (Cx.is hf)
  | false =>
    simp only [Bool.false_eq_true, if_false]
    rw [mem_youngs hS]
    unfold Cx.frm at hf
    simp only [Hp.cx, Bool.and_eq_true, Bool.false_or] at hf
    exact hf.2

/-- A collection has been done. -/
structure Done (S : Hp) (all : Bool) (rs : List Int) (sc : Int → Nat → Bool) (M : Mv) (bg : List Nat) : Prop where
  fin : (S.cx all).End (S.may all rs) sc M bg
  roots : ∀ r ∈ rs, (S.cx all).frm r = true → r ∈ M.mv.map Prod.fst
  marks : all = false → ∀ r, S.is r = true → bhas S.mr (r - 1).toNat = true → ∀ j : Nat, (j : Int) < S.num r → sc r j = true
end Go.Proofs.YtneeljhjfmcdoaaDoor

/-! Heap.Move: what holds in its loops, and how each step keeps it. -/
namespace Go.Proofs.YtneeljhjfmcdoaaDoor
open Go.RowKit

theorem fw_keep {X : Cx} {Lv : List Int} {sc sc' : Int → Nat → Bool} {M M' : Mv} (hM : M.Ok X Lv sc) (hM' : M'.Ok X Lv sc') (hle : ∀ p ∈ M.mv, p ∈ M'.mv) {r : Int} (hr : X.frm r = true → r ∈ M.mv.map Prod.fst) : fwL M'.mv r = fwL M.mv r := by
  cases hf : X.frm r with
  | false => rw [fw_stay hM hf, fw_stay hM' hf]
  | true => exact fwL_mem hM'.nd (hle _ (fwL_some (hr hf)))
theorem fst_le {M M' : Mv} (hle : ∀ p ∈ M.mv, p ∈ M'.mv) {r : Int} (h : r ∈ M.mv.map Prod.fst) : r ∈ M'.mv.map Prod.fst := by
  obtain ⟨p, hp, e⟩ := List.mem_map.1 h
  exact List.mem_map.2 ⟨p, hle p hp, e⟩
/-- A block beside is turned. -/
theorem MvAt.upd1 {w w' : World} {L : HL} {cv mv : Value} {X : Cx} {M : Mv} {q fb fg ob : Nat} {wv : Value} {B : Nat} {fr : List Nat} (h : MvAt w L cv mv X M q fb fg wv B fr) (hu : Upd [ob] w w') (hB : ob < B) (h1 : ob ∉ L.all) (h2 : ob ≠ q ∧ ob ≠ fb ∧ ob ≠ fg) : MvAt w' L cv mv X M q fb fg wv B fr :=
  ⟨h.hp.upd hu (fun i hi => by simp; intro e; exact h1 (e ▸ hi)), hu.heap h.mb (by simp; exact fun e => h2.1 e.symm), h.fs.upd hu (by simp; exact fun e => h2.2.1 e.symm) (by simp; exact fun e => h2.2.2 e.symm), h.fx, h.wk.upd hu (fun k hk hm => by
    have h3 := (World.ownsRow.lt h.wk k hk).1
    simp at hm; omega), h.lo, h.qB, h.ne⟩

structure Going (w4 wr : World) (L : HL) (cv mv : Value) (S : Hp) (all : Bool) (rs : List Int) (i : Nat) (sc : Int → Nat → Bool) (M : Mv) (q fb fg : Nat) (wv : Value) (B : Nat) (fr : List Nat) (ob : Nat) : Prop where
  at_ : MvAt wr L cv mv (S.cx all) M q fb fg wv B fr
  ok : M.Ok (S.cx all) (S.may all rs) sc
  wk : M.Wk (S.cx all) sc 0
  out : wr.heap[ob]? = some (.cells (icells ((rs.take i).map (fwL M.mv) ++ List.replicate (rs.length - i) 0)) 3)
  rts : ∀ r ∈ rs.take i, (S.cx all).frm r = true → r ∈ M.mv.map Prod.fst
  up : UpB B [L.hb, L.wb, q, fg, ob] w4 wr

theorem set_mid (A : List Int) (m : Nat) (v : Int) : (A ++ List.replicate (m + 1) (0 : Int)).set A.length v = A ++ [v] ++ List.replicate m 0 := by
  rw [List.set_append_right _ _ (Nat.le_refl _), Nat.sub_self, List.replicate_succ, List.set_cons_zero, List.append_assoc]
  rfl

section
variable {w4 wr : World} {L : HL} {cv mv : Value} {S : Hp} {all : Bool} {rs : List Int} {i : Nat} {sc : Int → Nat → Bool} {M : Mv} {q fb fg : Nat} {wv : Value} {B : Nat} {fr : List Nat} {ob : Nat}
theorem Going.outs (h : Going w4 wr L cv mv S all rs i sc M q fb fg wv B fr ob) {sc' : Int → Nat → Bool} {M' : Mv} (hM' : M'.Ok (S.cx all) (S.may all rs) sc') (hle : ∀ p ∈ M.mv, p ∈ M'.mv) : (rs.take i).map (fwL M'.mv) = (rs.take i).map (fwL M.mv) :=
  List.map_congr_left (fun r hr => fw_keep h.ok hM' hle (h.rts r hr))
theorem Going.top0 (hS : S.Ok) (h : Going w4 wr L cv mv S all rs i sc M q fb fg wv B fr ob) : (0 : Int) ≤ M.top ∨ (S.cx all).tp < 0 := by
  left
  have h1 := h.ok.low
  have h2 := hS.sp0 (S.cx all).tk
  unfold Cx.T0 at h1
  have e : (S.cx all).S = S := rfl
  rw [e] at h1
  omega
theorem Going.upd0 (h : Going w4 wr L cv mv S all rs i sc M q fb fg wv B fr ob) {w' : World} (hu : Upd [] wr w') : Going w4 w' L cv mv S all rs i sc M q fb fg wv B fr ob :=
  ⟨h.at_.upd0 hu, h.ok, h.wk, hu.heap h.out (by simp), h.rts, h.up.trans (hu.upB (by simp))⟩
/-- A root has been moved. -/
theorem Going.move (hS : S.Ok) (h : Going w4 wr L cv mv S all rs i sc M q fb fg wv B fr ob) (hi : i < rs.length) {w5 w6 : World} {M' : Mv} {wv' : Value} {fr' : List Nat} (hm : Moved wr w5 L cv mv (S.cx all) (S.may all rs) sc M M' (rs.getD i 0) q fb fg wv wv' B fr')
    (hob : ob < B) (hn : ob ∉ L.all ∧ ob ≠ q ∧ ob ≠ fb ∧ ob ≠ fg) (hw : w6 = w5.setCell ⟨ob, i, none⟩ (.int .i64 (fwL M'.mv (rs.getD i 0)))) : Going w4 w6 L cv mv S all rs (i + 1) sc M' q fb fg wv' B fr' ob := by
  have hu : Upd [ob] w5 w6 := by rw [hw]; exact (Upd.refl [ob] w5).setCell (.inl (by simp)) _
  have htk : rs.take (i + 1) = rs.take i ++ [rs.getD i 0] := by
    rw [List.take_add_one, List.getD_eq_getElem?_getD, List.getElem?_eq_getElem hi]; rfl
  have hall : L.hb ∈ L.all ∧ L.wb ∈ L.all := ⟨by simp [HL.all], by simp [HL.all]⟩
  have hnm : ob ∉ [L.hb, L.wb, q, fg] := by
    simp only [List.mem_cons, List.not_mem_nil, or_false, not_or]
    exact ⟨fun e => hn.1 (e ▸ hall.1), fun e => hn.1 (e ▸ hall.2), hn.2.1, hn.2.2.2⟩
  refine ⟨hm.at_.upd1 hu hob hn.1 hn.2, hm.ok, hm.wk h.ok h.wk (h.top0 hS), ?_, ?_, ?_⟩
  · have h1 := hm.up.heap h.out hob hnm
    rw [hw, heap_setCell h1, icells_set, htk, List.map_append, h.outs hm.ok hm.le]
    congr 3
    have e1 : ((rs.take i).map (fwL M.mv)).length = i := by rw [List.length_map, List.length_take]; omega
    have h2 := set_mid ((rs.take i).map (fwL M.mv)) (rs.length - (i + 1)) (fwL M'.mv (rs.getD i 0))
    rw [e1, show rs.length - (i + 1) + 1 = rs.length - i by omega] at h2
    exact h2
  · intro r hr hf
    rw [htk] at hr
    rcases List.mem_append.1 hr with hr | hr
    · exact fst_le hm.le (h.rts r hr hf)
    · simp only [List.mem_singleton] at hr
      rw [hr] at hf ⊢
      exact hm.gone hf
  · refine (h.up.trans (hm.up.mono (fun k hk _ => ?_))).trans (hu.upB (fun k hk _ => ?_))
    · simp only [List.mem_cons, List.not_mem_nil, or_false] at hk ⊢
      rcases hk with e | e | e | e <;> simp [e]
    · simp at hk; simp [hk]
/-- An object has been looked through. -/
theorem Going.scan (h : Going w4 wr L cv mv S all rs rs.length sc M q fb fg wv B fr ob) {w5 : World} {sc' : Int → Nat → Bool} {M1 M' : Mv} {cur : Int} {wv1 wv' : Value} {fr' : List Nat} {w1 : World} (hu1 : UpB B [L.hb, L.wb, q, fg, ob] wr w1) (h1 : M1.mv = M.mv) (hob1 : w1.heap[ob]? = wr.heap[ob]?)
    (hs : Scanned w1 w5 L cv mv (S.cx all) (S.may all rs) sc' M1 M' cur q fb fg wv1 wv' B fr') (hk : M'.Wk (S.cx all) sc' 0) (hob : ob < B) (hn : ob ∉ L.all ∧ ob ≠ q ∧ ob ≠ fb ∧ ob ≠ fg) : Going w4 w5 L cv mv S all rs rs.length sc' M' q fb fg wv' B fr' ob := by
  have hall : L.hb ∈ L.all ∧ L.wb ∈ L.all := ⟨by simp [HL.all], by simp [HL.all]⟩
  have hle : ∀ p ∈ M.mv, p ∈ M'.mv := by
    have := hs.le
    rwa [h1] at this
  have hnm : ob ∉ [L.hb, L.wb, q, fg] := by
    simp only [List.mem_cons, List.not_mem_nil, or_false, not_or]
    exact ⟨fun e => hn.1 (e ▸ hall.1), fun e => hn.1 (e ▸ hall.2), hn.2.1, hn.2.2.2⟩
  refine ⟨hs.at_, hs.ok, hk, ?_, fun r hr hf => fst_le hle (h.rts r hr hf), ?_⟩
  · rw [hs.up.heap (hob1.trans h.out) hob hnm, h.outs hs.ok hle]
  · refine (h.up.trans hu1).trans (hs.up.mono (fun k hk _ => ?_))
    simp only [List.mem_cons, List.not_mem_nil, or_false] at hk ⊢
    rcases hk with e | e | e | e <;> simp [e]
end
/-- A length, or 0. -/
def slen : Value → Nat
  | .slice _ n _ => n
  | _ => 0
/-- How much is left to do. -/
def mzr (L : HL) (X : Cx) (q : Nat) (w : World) : Nat := (X.tp - intOf ((w.cell? ⟨L.hb, 3 + 3 * X.tk + 2, none⟩).getD undef) + 2 * (slen ((w.cell? ⟨q, 4, none⟩).getD undef) : Int)).toNat
theorem mzr_eq {w : World} {L : HL} {cv mv : Value} {X : Cx} {M : Mv} {q fb fg : Nat} {wv : Value} {B : Nat} {fr : List Nat} (hk : X.tk < 3) (h : MvAt w L cv mv X M q fb fg wv B fr) : mzr L X q w = (X.tp - M.top + 2 * (M.work.length : Int)).toNat := by
  obtain ⟨_, _, c2⟩ := sp_cells h.hp.hb X.tk hk
  rw [mid_sp _ _ _ hk] at c2
  unfold Cx.spM at c2
  rw [if_pos rfl] at c2
  have q4 : w.cell? ⟨q, 4, none⟩ = some wv := by rw [cell_of h.mb]; rfl
  have hl : slen wv = M.work.length := by
    rcases h.wk.form with ⟨h1, h2⟩ | ⟨g, c, h1, _⟩
    · rw [h1, h2]; rfl
    · rw [h1]; rfl
  unfold mzr
  rw [c2, q4]
  show (X.tp - intOf (.int .i64 M.top) + 2 * (slen wv : Int)).toNat = _
  rw [hl]
  rfl
theorem Mv.Ok.works {X : Cx} {Lv : List Int} {sc : Int → Nat → Bool} {M : Mv} (h : M.Ok X Lv sc) (l : List Int) : ({ M with work := l } : Mv).Ok X Lv sc :=
  ⟨h.len, h.nd, h.frm, h.bd, h.dj, h.top, h.tp, h.unm, h.mvd, h.img, h.scm, h.scn, h.wide⟩
/-- The last one is taken from the list. -/
theorem MvAt.pop {w w' : World} {L : HL} {cv mv : Value} {X : Cx} {M : Mv} {q fb fg g c : Nat} {B : Nat} {fr : List Nat} {l : List Int} {b : Int} (h : MvAt w L cv mv X M q fb fg (.slice (some ⟨g, 0, none⟩) (l.length + 1) c) B fr) (e : M.work = l ++ [b]) (hu : Upd [q] w w')
    (hm : w'.heap[q]? = some (.cells #[.pointer (some ⟨L.hb, 0, none⟩), .bool X.all, .pointer (some ⟨L.hb, 3 + 3 * X.tk, none⟩), .pointer (some ⟨fb, 0, none⟩), .slice (some ⟨g, 0, none⟩) l.length c] 130)) :
    MvAt w' L cv mv X { M with work := l } q fb fg (.slice (some ⟨g, 0, none⟩) l.length c) B fr := by
  refine ⟨h.hp.upd hu (fun i hi => by simp; intro e; exact h.ne.1 (e ▸ hi)), hm, h.fs.upd hu (by simp; exact h.ne.2.2.2.1.symm) (by simp; exact h.ne.2.2.2.2.symm), h.fx, ?_, h.lo, h.qB, h.ne⟩
  have h0 := h.wk
  rw [e] at h0
  have h1 : OwnI w' B 3 (.slice (some ⟨g, 0, none⟩) (l.length + 1) c) (l ++ [b]) := h0.upd hu (fun k hk hm => by
    have h3 := (World.ownsRow.lt h0 k hk).1
    have := h.qB.1
    simp at hm; omega)
  rcases h1.2 with ⟨e1, _⟩ | ⟨g', c', cur, e1, h3, h4, h5, h6, h7, h8⟩
  · cases e1
  · simp only [Value.slice.injEq, Option.some.injEq, Addr.mk.injEq] at e1
    obtain ⟨⟨rfl, _⟩, _, rfl⟩ := e1
    refine ⟨by simp, .inr ⟨g, c, cur, rfl, h3, h4, by rw [List.length_append, List.length_singleton] at h5; show l.length ≤ c; omega, h6, h7, ?_⟩⟩
    have h9 := congrArg (List.take (l.length * 1)) h8
    rw [List.take_take, List.map_append, List.take_append_of_le_length (by simp)] at h9
    rw [show min (l.length * 1) ((l ++ [b]).length * 1) = l.length * 1 by simp] at h9
    rw [h9, List.take_of_length_le (by simp)]
/-- The marked objects, as numbers. -/
theorem marks_mem {S : Hp} (hI : S.Inv) {r : Int} (hr : r ∈ plus1 (blist S.mr)) : S.is r = true ∧ S.inY r = false := by
  obtain ⟨x, hx, rfl⟩ := List.mem_map.1 hr
  exact hI.mks x ((mem_blist _ _).1 hx)
theorem marks_in {S : Hp} {r : Int} (hi : S.is r = true) (hb : bhas S.mr (r - 1).toNat = true) : r ∈ plus1 (blist S.mr) := by
  have := (is_bhas hi).2
  exact List.mem_map.2 ⟨(r - 1).toNat, (mem_blist _ _).2 hb, by omega⟩
theorem marks_nodup (S : Hp) : (plus1 (blist S.mr)).Nodup := by
  unfold plus1 List.Nodup
  rw [List.pairwise_map]
  exact (blist_sorted S.mr).imp (fun h e => by omega)
theorem nodup_take {l : List Int} (h : l.Nodup) {k : Nat} (hk : k < l.length) : l.getD k 0 ∉ l.take k := by
  intro hm
  obtain ⟨j, hj, e⟩ := List.mem_iff_getElem.1 hm
  rw [List.length_take] at hj
  rw [List.getElem_take, List.getD_eq_getElem?_getD, List.getElem?_eq_getElem hk] at e
  have := (List.getElem_inj (xs := l) (h₀ := by omega) (h₁ := hk) h).1 e
  omega
theorem nodup_new {L : HL} (h : L.all.Nodup) {mb mw n : Nat} (hl : ∀ k ∈ L.all, k < n) (h1 : n ≤ mb) (h2 : n ≤ mw) (h3 : mb ≠ mw) : ({ L with mb := mb, mw := mw } : HL).all.Nodup := by
  have low : ∀ k ∈ L.all, k ≠ mb ∧ k ≠ mw := fun k hk => ⟨Nat.ne_of_lt (Nat.lt_of_lt_of_le (hl k hk) h1), Nat.ne_of_lt (Nat.lt_of_lt_of_le (hl k hk) h2)⟩
  have g1 := low L.hb (by simp [HL.all])
  have g2 := low L.ab (by simp [HL.all])
  have g3 := low L.wb (by simp [HL.all])
  have g4 := low L.bb (by simp [HL.all])
  have g5 := low L.bw (by simp [HL.all])
  have g6 := low L.cb (by simp [HL.all])
  simp only [HL.all, List.nodup_cons, List.mem_cons, List.not_mem_nil, or_false, not_or, List.nodup_nil] at h ⊢
  obtain ⟨⟨a1, a2, a3, a4, a5, a6, a7⟩, ⟨b1, b2, b3, b4, b5, b6⟩, ⟨c1, c2, c3, c4, c5⟩, ⟨d1, d2, d3, d4⟩, ⟨e1, e2, e3⟩, ⟨f1, f2⟩, i1, _⟩ := h
  exact ⟨⟨a1, a2, a3, a4, g1.1, g1.2, a7⟩, ⟨b1, b2, b3, g2.1, g2.2, b6⟩, ⟨c1, c2, g3.1, g3.2, c5⟩, ⟨d1, g4.1, g4.2, d4⟩, ⟨g5.1, g5.2, e3⟩, ⟨h3, g6.1.symm⟩, g6.2.symm, by simp⟩
theorem mid_start (X : Cx) : X.mid ⟨X.S.A, X.T0, [], []⟩ = X.S := by
  have e : ∀ k, X.spM ⟨X.S.A, X.T0, [], []⟩ k = X.S.sp k := by
    intro k
    unfold Cx.spM
    split
    · rename_i h; subst h; rfl
    · rfl
  unfold Cx.mid
  rw [e, e, e]
  rfl
theorem make_lenI (w : World) (m : Nat) (h : m ≤ 1000000) : (Instr.makeSlice 22 (.int .i64 (m : Int)) (.int .i64 (m : Int))).run Tryd.prog w = .ok (.slice (some ⟨w.heap.size, 0, none⟩) m m) (w.alloc (.cells (icells (List.replicate m 0)) 3)) := by
  obtain ⟨i0, hi, hz0, hz1, hz2⟩ := info_parts Tryd.infoInt
  have hmk := run_make (P := Tryd.prog) w 22 3 i0 (.int .i64 0) Tryd.underlying22 hi hz0 .i64 .i64 (m : Int) (m : Int) (by omega) (by omega) (by rw [hz2]; omega) (by omega)
  rw [hz1, Nat.mul_one] at hmk
  simpa [madeCells_zero] using hmk
end Go.Proofs.YtneeljhjfmcdoaaDoor
