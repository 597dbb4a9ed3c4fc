/- What always holds of a heap: at its beginning, when an object is laid, a value put, when all is collected. The chapter's heap: a class with a reference. The heap in a law's hands: what always holds of it, and each of its functions, whole. -/
import Derived.Test.YtneeljhjfmcdoaaDoorMoveL
import Derived.Test.YtneeljhjfmcdoaaDoorGcV
import Derived.Test.YtneeljhjfmcdoaaDoorHeap7
import Derived.Test.YtneeljhjfmcdoaaDoorReachW
/-! What always holds of a heap: at its beginning, when an object is laid, a value put, when all is collected. -/
namespace Go.Proofs.YtneeljhjfmcdoaaDoor

theorem inv_new (cs : List ByteArray) (lim nur : Int) : (Hp.new cs lim nur).Inv := by
  have hz : ∀ r, (Hp.new cs lim nur).is r = true → False := fun r hr => by
    have h1 := (is_bhas hr).1
    simp only [Hp.new, bhas_zero] at h1
    cases h1
  refine ⟨fun r hr => (hz r hr).elim, wide_new _ _ _, fun r hr => (hz r hr).elim, fun r hr => (hz r hr).elim, fun x hx => ?_, ?_⟩
  · simp only [Hp.new, bhas_zero] at hx
    cases hx
  · show _ = _
    simp [Hp.oldK, Hp.new, Hp.sp]

section
variable {S : Hp} (hS : S.Ok) (hI : S.Inv) (hb : S.bg.length = (S.A.length + 63) / 64)
include hS hI hb
theorem inv_laid {k : Nat} {c wd : Int} (f : Fits S k c wd) (hk : k = 0 ∨ k = S.oldK) : (S.laid k c wd).Inv := by
  have hisr : ∀ r, (S.laid k c wd).is r = true → S.is r = true ∨ r = (S.sp k).top + 1 := fun r hr => by
    rw [laid_is hS f hb, Bool.or_eq_true, decide_eq_true_eq] at hr
    exact hr
  have w1 := f.w1
  have wr := f.room
  have s0 := hS.sp0 k
  refine ⟨fun r hr => ?_, wide_laid hS hI.wide f, fun r hr j hj hf => ?_, fun r hr hy j hj hf hv => ?_, fun x hx => ?_, ?_⟩
  · rw [laid_get hS f]
    rcases hisr r hr with h | rfl
    · have hl := hS.le h
      have haway : ∀ i : Int, r - 1 ≤ i → i < r + 1 + S.num r → i < (S.sp k).top ∨ (S.sp k).to ≤ i := fun i h1 h2 => by
        obtain ⟨hb1, _⟩ := is_bhas h
        obtain ⟨j, hj, u1, u2⟩ := hS.used _ hb1
        have e : unN (S.A.getD (r - 1).toNat 0) = S.num r := rfl
        rw [e] at u2
        have t0 := hS.sp0 j
        by_cases hjk : j = k
        · subst hjk; left; omega
        · rcases hS.apart hj f.k3 hjk with h3 | h3
          · left; omega
          · right; omega
      have := haway r (by omega) (by omega)
      rw [if_neg (by omega), if_neg (by omega)]
      exact hI.zero r h
    · rw [if_neg (by omega), if_pos (by omega)]
  · rcases hisr r hr with h | rfl
    · have h1 := laid_cls_old hS f h
      rw [h1.2] at hj
      rw [laid_refB_old hS f hb h] at hf
      rw [laid_get_old hS f h (by omega) hj]
      rcases hI.tight r h j hj hf with h2 | h2
      · exact .inl h2
      · exact .inr (laid_is_old hS f hb h2)
    · left
      rw [(laid_cls_new hS f).2] at hj
      exact laid_get_new hS f (by omega) hj
  · rcases hisr r hr with h | rfl
    · have h1 := laid_cls_old hS f h
      rw [h1.2] at hj
      rw [laid_refB_old hS f hb h] at hf
      rw [laid_get_old hS f h (by omega) hj] at hv
      rw [laid_inY_old hS f hb h] at hy
      rw [laid_mr]
      refine hI.barr r h hy j hj hf ?_
      rcases hI.tight r h j hj hf with h2 | h2
      · rw [h2] at hv
        cases hv
      · rwa [laid_inY_old hS f hb h2] at hv
    · rw [(laid_cls_new hS f).2] at hj
      rw [laid_get_new hS f (by omega) hj] at hv
      cases hv
  · rw [laid_mr] at hx
    obtain ⟨h1, h2⟩ := hI.mks x hx
    exact ⟨laid_is_old hS f hb h1, by rw [laid_inY_old hS f hb h1]; exact h2⟩
  · have hh := hI.half
    unfold Hp.Half at hh ⊢
    have e : (S.laid k c wd).oldK = S.oldK := by unfold Hp.oldK; rw [laid_now]
    have ho : S.oldK = 1 ∨ S.oldK = 2 := oldK_12 S
    rw [e, laid_sp S k _ c wd f.k3 (by omega), if_neg (by omega)]
    exact hh

omit hb in
theorem inv_put (hm : S.mr.length = (S.A.length + 63) / 64) {r i v : Int} (hr : S.mayRaw r i v = true) (hv : -9223372036854775808 ≤ v ∧ v ≤ 9223372036854775807) : (S.put r i v).Inv := by
  obtain ⟨h0, h1, h2⟩ := mayRaw_at hr
  have hl := hS.le h0
  have hmr : ∀ x, bhas (S.put r i v).mr x = true ↔ bhas S.mr x = true ∨ (S.marked r i v = true ∧ x = (r - 1).toNat) := fun x => by
    unfold Hp.put
    cases hk : S.marked r i v with
    | true =>
      rw [if_pos rfl]
      show bhas (badd S.mr (r - 1).toNat) x = true ↔ _
      rw [badd_get _ _ _ (by omega), Bool.or_eq_true, decide_eq_true_eq]
      simp only [true_and]
      exact ⟨fun h => h.imp id Eq.symm, fun h => h.imp id Eq.symm⟩
    | false =>
      rw [if_neg (by simp)]
      show bhas S.mr x = true ↔ _
      simp
  refine ⟨fun q hq => ?_, wide_put hI.wide hS hr hv, fun q hq j hj hf => ?_, fun q hq hy j hj hf hw => ?_, fun x hx => ?_, ?_⟩
  · rw [put_is] at hq
    rw [put_A]
    show (S.A.set (r + 1 + i).toNat v).getD q.toNat 0 = 0
    have hq1 := hS.le hq
    rw [getD_set _ _ _ _ (by omega), if_neg (fun e => ?_)]
    · exact hI.zero q hq
    · by_cases hqr : q = r
      · omega
      · have := objs_apart hS hq h0 hqr
        omega
  · rw [put_is] at hq ⊢
    rw [(put_cls hS hr q hq).2] at hj
    rw [put_refB hS hr] at hf
    rw [put_get hS hr q j hq (by omega) hj]
    split
    · rename_i e
      obtain ⟨rfl, e2⟩ := e
      simp only [Hp.mayRaw, Bool.and_eq_true, Bool.or_eq_true, decide_eq_true_eq, Bool.not_eq_true'] at hr
      rw [e2] at hf
      rcases hr.2 with (h3 | h3) | h3
      · rw [h3] at hf; cases hf
      · exact .inl h3
      · exact .inr h3.2
    · exact hI.tight q hq j hj hf
  · rw [put_is] at hq
    rw [put_inY] at hy hw
    rw [(put_cls hS hr q hq).2] at hj
    rw [put_refB hS hr] at hf
    rw [put_get hS hr q j hq (by omega) hj] at hw
    rw [hmr]
    split at hw
    · rename_i e
      obtain ⟨rfl, e2⟩ := e
      right
      refine ⟨?_, rfl⟩
      unfold Hp.marked
      rw [← e2, hf, hy, hw]; rfl
    · exact .inl (hI.barr q hq hy j hj hf hw)
  · rw [put_is, put_inY]
    rcases (hmr x).1 hx with h | ⟨h, rfl⟩
    · exact hI.mks x h
    · have e : (((r - 1).toNat : Nat) : Int) + 1 = r := by omega
      rw [e]
      refine ⟨h0, ?_⟩
      unfold Hp.marked at h
      simp only [Bool.and_eq_true, Bool.not_eq_true'] at h
      exact h.1.2
  · have hh := hI.half
    unfold Hp.Half Hp.oldK at hh ⊢
    rw [put_now]
    have e : ∀ k, (S.put r i v).sp k = S.sp k := fun k => by
      match k with
      | 0 => exact put_y S r i v
      | 1 => exact put_h0 S r i v
      | _ + 2 => exact put_h1 S r i v
    rw [e]
    exact hh
end

/-- A collection keeps it. -/
theorem inv_after {S : Hp} (hI : S.Inv) {all : Bool} {rs : List Int} {sc : Int → Nat → Bool} {M : Mv} {bg : List Nat} (n : Nat) (h : Done S all rs sc M bg) : ((S.cx all).after M bg (List.replicate n 0)).Inv :=
  ⟨after_zero h.fin, after_wide h.fin, after_tight h.fin hI.tight (fun _ => hI.barr) h.marks, after_barr h.fin, (fun x hx => by
    have h2 : bhas (List.replicate n 0) x = true := hx
    rw [bhas_zero] at h2
    cases h2), after_half h.fin (fun _ => hI.half)⟩
/-- The shape is what it was. -/
theorem done_shape {S : Hp} (hI : S.Inv) {all : Bool} {rs : List Int} {sc : Int → Nat → Bool} {M : Mv} {bg mr : List Nat} (h : Done S all rs sc M bg) (hr : ∀ r ∈ rs, r = 0 ∨ S.is r = true) : ((S.cx all).after M bg mr).shape (rs.map (fwL M.mv)) = S.shape rs :=
  after_shape h.fin hI.tight (fun _ => hI.barr) h.marks rs (fun r hm => ⟨hr r hm, fun hf => h.roots r hm hf⟩)
end Go.Proofs.YtneeljhjfmcdoaaDoor

/-! The chapter's heap: a class with a reference. -/
namespace Go.Proofs.YtneeljhjfmcdoaaDoor
open Go.RowKit

/-- A heap that has just been made: its blocks are new, none is the table's. -/
structure NewAt (w w' : World) (L : HL) (cv mv : Value) (S : Hp) : Prop where
  hp : HpAt w' L cv mv S
  up : Upd [] w w'
  lo : ∀ i ∈ [L.hb, L.ab, L.wb, L.bb, L.bw, L.mb, L.mw], w.heap.size ≤ i
  hi : ∀ i ∈ L.all, i < w'.heap.size
  tz : ∀ i ∈ L.all, i ≠ 1

set_option maxRecDepth 100000 in
set_option maxHeartbeats 2000000 in
theorem ring_any (w : World) (hT : TzAt w) : Calls Tryd.prog 10 #[] w fun e w' => ∃ L cv mv pa pm, e = .returned (.tuple #[.pointer (some ⟨L.hb, 0, none⟩), .agg #[.slice pa 1 1, .slice pm 1 1], .bool true]) ∧ NewAt w w' L cv mv (Hp.new [IR] 200 20) := by
  have htl := hT.lt
  go_enter Tryd.func10, Tryd.ntmps10
  go_wp2_with fail
  obtain ⟨wa, hwa⟩ : ∃ wa : World, wa = w.alloc (Obj.cells #[Value.slice none 0 0, Value.slice none 0 0] 28) := ⟨_, rfl⟩
  rw [← hwa]
  have hsa : w.heap.size + 1 = wa.heap.size := by rw [hwa, World.size_alloc]
  have hua : Upd [] w wa := by rw [hwa]; exact (Upd.refl [] w).alloc _
  have hha : wa.heap[w.heap.size]? = some (Obj.cells #[Value.slice none 0 0, Value.slice none 0 0] 28) := by rw [hwa]; exact heap_alloc_new _ _
  rw [hsa]
  clear hwa
  have h1 := heap_alloc_new wa (Obj.cells #[Value.string { data := #[73, 82] }] 44)
  have hub : Upd [] wa ((((wa.alloc (Obj.cells #[Value.string { data := #[73, 82] }] 44)).alloc (Obj.cells #[Value.int IntKind.i64 33, Value.int IntKind.i64 0, Value.int IntKind.i64 0, Value.int IntKind.i64 0] 46)).alloc (Obj.cells #[Value.string { data := #[] }, Value.string { data := #[] }, Value.string { data := #[] }, Value.slice (some { block := wa.heap.size + 1, off := 0 }) 1 1] 49)).alloc (Obj.cells #[Value.slice (some { block := wa.heap.size, off := 0 }) 1 1, Value.slice (some { block := wa.heap.size + 1 + 1, off := 0 }) 1 1] 28)) :=
    ((((Upd.refl [] wa).alloc _).alloc _).alloc _).alloc _
  have h2 := ((((Upd.refl [] (wa.alloc (Obj.cells #[Value.string { data := #[73, 82] }] 44))).alloc (Obj.cells #[Value.int IntKind.i64 33, Value.int IntKind.i64 0, Value.int IntKind.i64 0, Value.int IntKind.i64 0] 46)).alloc (Obj.cells #[Value.string { data := #[] }, Value.string { data := #[] }, Value.string { data := #[] }, Value.slice (some { block := wa.heap.size + 1, off := 0 }) 1 1] 49)).alloc (Obj.cells #[Value.slice (some { block := wa.heap.size, off := 0 }) 1 1, Value.slice (some { block := wa.heap.size + 1 + 1, off := 0 }) 1 1] 28)).heap h1 (by simp)
  have h3 := heap_alloc_new (((wa.alloc (Obj.cells #[Value.string { data := #[73, 82] }] 44)).alloc (Obj.cells #[Value.int IntKind.i64 33, Value.int IntKind.i64 0, Value.int IntKind.i64 0, Value.int IntKind.i64 0] 46)).alloc (Obj.cells #[Value.string { data := #[] }, Value.string { data := #[] }, Value.string { data := #[] }, Value.slice (some { block := wa.heap.size + 1, off := 0 }) 1 1] 49)) (Obj.cells #[Value.slice (some { block := wa.heap.size, off := 0 }) 1 1, Value.slice (some { block := wa.heap.size + 1 + 1, off := 0 }) 1 1] 28)
  simp only [World.size_alloc] at h3
  generalize ((((wa.alloc (Obj.cells #[Value.string { data := #[73, 82] }] 44)).alloc (Obj.cells #[Value.int IntKind.i64 33, Value.int IntKind.i64 0, Value.int IntKind.i64 0, Value.int IntKind.i64 0] 46)).alloc (Obj.cells #[Value.string { data := #[] }, Value.string { data := #[] }, Value.string { data := #[] }, Value.slice (some { block := wa.heap.size + 1, off := 0 }) 1 1] 49)).alloc (Obj.cells #[Value.slice (some { block := wa.heap.size, off := 0 }) 1 1, Value.slice (some { block := wa.heap.size + 1 + 1, off := 0 }) 1 1] 28)) = wb at *
  have hcls : ClsAt wb (.slice (some ⟨wa.heap.size, 0, none⟩) 1 1) wa.heap.size 0 [IR] := by
    refine ⟨.inr ⟨_, _, rfl, .inr rfl⟩, fun i hi => ?_⟩
    obtain rfl : i = 0 := by simpa using hi
    rw [cell_of h2]
    rfl
  have hbs := hub.size
  refine (hnew_ok _ _ _ _ [IR] 200 20 _ hcls (by omega) (by omega) (by omega) (by simp) (by simp; decide) (by omega)).mono ?_
  rintro e w1 ⟨L, cv, mv, rfl, hH0, hu1, hlo1⟩
  have hU1 := hua.trans (hub.trans hu1)
  have hlow : ∀ i ∈ L.all, i < w1.heap.size := fun i hi => (hlo1 i hi).2
  have hlo : ∀ i ∈ [L.hb, L.ab, L.wb, L.bb, L.bw, L.mb, L.mw], wb.heap.size ≤ i := HL.above hH0.nd (fun i hi => by
    rcases (hlo1 i hi).1 with h | h
    · exact .inl h
    · exact .inr h)
  have k3 := hu1.heap h3 (by simp)
  have c30 : w1.cell? ⟨wa.heap.size + 1 + 1 + 1, 0, none⟩ = some (.slice (some ⟨wa.heap.size, 0, none⟩) 1 1) := by rw [cell_of k3]; rfl
  have c31 : w1.cell? ⟨wa.heap.size + 1 + 1 + 1, 1, none⟩ = some (.slice (some ⟨wa.heap.size + 1 + 1, 0, none⟩) 1 1) := by rw [cell_of k3]; rfl
  have k1 := (hub.trans hu1).heap hha (by simp)
  have c10 : w1.cell? ⟨w.heap.size, 0, none⟩ = some (.slice none 0 0) := by rw [cell_of k1]; rfl
  have c11 : w1.cell? ⟨w.heap.size, 1, none⟩ = some (.slice none 0 0) := by rw [cell_of k1]; rfl
  have f10 := froz_of k1 0
  have f11 := froz_of k1 1
  have f30 := froz_of k3 0
  have f31 := froz_of k3 1
  have hne : w.heap.size ≠ wa.heap.size + 1 + 1 + 1 := by omega
  have HH0 := Lib.hid hH0
  have HU1 := Lib.hid hU1
  have hlt1 : ∀ i ∈ L.all, i ≠ w.heap.size := fun i hi e => by
    rcases (hlo1 i hi).1 with h | h <;> omega
  have htz : ∀ i ∈ L.all, i ≠ 1 := fun i hi e => by
    rcases (hlo1 i hi).1 with h | h
    · rw [h.1] at e; exact absurd e (by decide)
    · have h9 := hT.lt
      rw [e] at h
      omega
  have HLO : Hid (∀ i ∈ [L.hb, L.ab, L.wb, L.bb, L.bw, L.mb, L.mw], w.heap.size ≤ i) := fun i hi => by have := hlo i hi; omega
  have HLW := Lib.hid hlow
  have HLT := Lib.hid hlt1
  have HTZ := Lib.hid htz
  have hws : w.heap.size ≤ w1.heap.size := hU1.size
  clear hlo hlow hlo1 hU1 hH0 hu1 h1 h2 h3 hcls hub hua hha hlt1 htz
  go_wp2_with fail
  go_region
  have hup := ((Upd.refl [w.heap.size] w1).setCell (p := ⟨w.heap.size, 0, none⟩) (.inl (by simp)) (.slice (some ⟨wa.heap.size, 0, none⟩) 1 1)).setCell (p := ⟨w.heap.size, 1, none⟩) (.inl (by simp)) (.slice (some ⟨wa.heap.size + 1 + 1, 0, none⟩) 1 1) |>.drew
  have hk := heap_setCell (heap_setCell k1 0 (.slice (some ⟨wa.heap.size, 0, none⟩) 1 1)) 1 (.slice (some ⟨wa.heap.size + 1 + 1, 0, none⟩) 1 1)
  generalize hw2 : ((w1.setCell ⟨w.heap.size, 0, none⟩ (.slice (some ⟨wa.heap.size, 0, none⟩) 1 1)).setCell ⟨w.heap.size, 1, none⟩ (.slice (some ⟨wa.heap.size + 1 + 1, 0, none⟩) 1 1)).drew = w2 at hup ⊢
  have hk2 : w2.heap[w.heap.size]? = some (.cells #[.slice (some ⟨wa.heap.size, 0, none⟩) 1 1, .slice (some ⟨wa.heap.size + 1 + 1, 0, none⟩) 1 1] 28) := by rw [← hw2]; exact hk
  have d0 : w2.cell? ⟨w.heap.size, 0, none⟩ = some (.slice (some ⟨wa.heap.size, 0, none⟩) 1 1) := by rw [cell_of hk2]; rfl
  have d1 : w2.cell? ⟨w.heap.size, 1, none⟩ = some (.slice (some ⟨wa.heap.size + 1 + 1, 0, none⟩) 1 1) := by rw [cell_of hk2]; rfl
  have HN : Hid (NewAt w w2 L cv mv (Hp.new [IR] 200 20)) := ⟨HH0.out.upd hup (fun i hi hm => HLT.out i hi (by simpa using hm)), HU1.out.trans' hup (fun i hi hlt => by simp at hi; omega), HLO.out, fun i hi => Nat.lt_of_lt_of_le (HLW.out i hi) hup.size, HTZ.out⟩
  clear hw2 hk hk2 hup c10 c11 c30 c31 f10 f11 f30 f31 k1 k3 HH0 HU1
  go_wp2_with fail
  refine bodyPost_ret (v := .tuple #[.pointer (some ⟨L.hb, 0, none⟩), .agg #[.slice (some ⟨wa.heap.size, 0, none⟩) 1 1, .slice (some ⟨wa.heap.size + 1 + 1, 0, none⟩) 1 1], .bool true]) (by simp [results, Tryd.results10, go_sem, d0, d1]) rfl ?_
  exact ⟨L, cv, mv, _, _, rfl, HN.out⟩
end Go.Proofs.YtneeljhjfmcdoaaDoor

/-! The heap in a law's hands: what always holds of it, and each of its functions, whole. -/
namespace Go.Proofs.YtneeljhjfmcdoaaDoor
open Go.RowKit

/-- A heap made since w0. -/
structure GcAt (w0 w : World) (L : HL) (cv mv : Value) (S : Hp) : Prop where
  hp : HpAt w L cv mv S
  inv : S.Inv
  up : Upd [] w0 w
  lo : ∀ i ∈ [L.hb, L.ab, L.wb, L.bb, L.bw, L.mb, L.mw], w0.heap.size ≤ i
  hi : ∀ i ∈ L.all, i < w.heap.size
  tz : ∀ i ∈ L.all, i ≠ 1
  tt : TzAt w
/-- What a heap's function may write. -/
def HL.own (L : HL) : List Nat := [L.hb, L.wb, L.bw, L.mw]

theorem NewAt.gc {w w' : World} {L : HL} {cv mv : Value} {cs : List ByteArray} {lim nur : Int} (h : NewAt w w' L cv mv (Hp.new cs lim nur)) (hT : TzAt w) : GcAt w w' L cv mv (Hp.new cs lim nur) :=
  ⟨h.hp, inv_new _ _ _, h.up, h.lo, h.hi, h.tz, hT.upd h.up (by simp)⟩
theorem HL.sub {L : HL} {i : Nat} (h : i ∈ L.own) : i ∈ L.all := by
  simp only [HL.own, HL.all, List.mem_cons, List.not_mem_nil, or_false] at h ⊢
  rcases h with h | h | h | h <;> simp [h]
theorem HL.sub7 {L : HL} {i : Nat} (h : i ∈ L.own) : i ∈ [L.hb, L.ab, L.wb, L.bb, L.bw, L.mb, L.mw] := by
  simp only [HL.own, List.mem_cons, List.not_mem_nil, or_false] at h ⊢
  rcases h with h | h | h | h <;> simp [h]

section
variable {w0 w : World} {L : HL} {cv mv : Value} {S : Hp} (h : GcAt w0 w L cv mv S)
include h
theorem GcAt.ups {T : List Nat} {w' : World} (hu : Upd T w w') (hT : ∀ i ∈ T, i ∈ L.own) : Upd [] w0 w' :=
  h.up.trans' hu (fun i hi hlt => by have := h.lo i (HL.sub7 (hT i hi)); omega)
theorem GcAt.step {S' : Hp} {T : List Nat} {w' : World} (hp : HpAt w' L cv mv S') (hi : S'.Inv) (hu : Upd T w w') (hT : ∀ i ∈ T, i ∈ L.own) : GcAt w0 w' L cv mv S' :=
  ⟨hp, hi, h.ups hu hT, h.lo, fun i hi => Nat.lt_of_lt_of_le (h.hi i hi) hu.size, h.tz, h.tt.upd hu (fun hm => h.tz _ (HL.sub (hT _ hm)) rfl)⟩
theorem GcAt.upd {w' : World} (hu : Upd [] w w') : GcAt w0 w' L cv mv S := h.step (h.hp.upd0 hu) h.inv hu (by simp)
theorem GcAt.updT {T : List Nat} {w' : World} (hu : Upd T w w') (hT : ∀ i ∈ T, i ∉ L.all ∧ w0.heap.size ≤ i ∧ i ≠ 1) : GcAt w0 w' L cv mv S :=
  ⟨h.hp.upd hu (fun i hi hm => (hT i hm).1 hi), h.inv, h.up.trans' hu (fun i hi hlt => by have := (hT i hi).2.1; omega), h.lo, fun i hi => Nat.lt_of_lt_of_le (h.hi i hi) hu.size, h.tz, h.tt.upd hu (fun hm => (hT _ hm).2.2 rfl)⟩

theorem inv_layK' {k : Nat} (hk : k = 0 ∨ k = S.oldK) (c n : Int) : (S.layK k c n).Inv := by
  unfold Hp.layK
  have ho := oldK_12 S
  have hk3 : k < 3 := by omega
  cases hr : S.room k c n with
  | true =>
    rw [if_pos rfl]
    have hr' := hr
    simp only [Hp.room, decide_eq_true_eq] at hr'
    exact inv_laid h.hp.ok h.inv h.hp.bg.2.2.2.1 (words_fits h.hp.ok hk3 hr'.1 hr'.2) hk
  | false => rw [if_neg (by simp)]; exact h.inv

theorem gyoung (c n : Int) : Calls Tryd.prog 11 #[.pointer (some ⟨L.hb, 0, none⟩), .int .i64 c, .int .i64 n] w fun e w' => e = .returned (.tuple #[.int .i64 (S.layR 0 c n), .bool (S.room 0 c n)]) ∧ GcAt w0 w' L cv mv (S.layK 0 c n) ∧ Upd L.own w w' := by
  refine (young_any L cv mv S c n w h.hp).mono ?_
  rintro e w' ⟨rfl, h1, h2⟩
  exact ⟨rfl, h.step h1 (inv_layK' h (.inl rfl) c n) h2 (by simp [HL.own]), h2.mono (by simp +contextual [HL.own])⟩
theorem gold (c n : Int) : Calls Tryd.prog 20 #[.pointer (some ⟨L.hb, 0, none⟩), .int .i64 c, .int .i64 n] w fun e w' => e = .returned (.tuple #[.int .i64 (S.layR S.oldK c n), .bool (S.room S.oldK c n)]) ∧ GcAt w0 w' L cv mv (S.layK S.oldK c n) ∧ Upd L.own w w' := by
  refine (oldo_any L cv mv S c n w h.hp).mono ?_
  rintro e w' ⟨rfl, h1, h2⟩
  exact ⟨rfl, h.step h1 (inv_layK' h (.inr rfl) c n) h2 (by simp [HL.own]), h2.mono (by simp +contextual [HL.own])⟩
theorem gput (r i v : Int) (hb : r ≤ 9223372036854775807) (hv : -9223372036854775808 ≤ v ∧ v ≤ 9223372036854775807) : Calls Tryd.prog 12 #[.pointer (some ⟨L.hb, 0, none⟩), .int .i64 r, .int .i64 i, .int .i64 v] w fun e w' => e = .returned (.bool (S.mayRaw r i v)) ∧ GcAt w0 w' L cv mv (if S.mayRaw r i v = true then S.put r i v else S) ∧ Upd L.own w w' := by
  refine (put_any L cv mv S r i v w h.hp hb hv.2).mono ?_
  rintro e w' ⟨rfl, h1, h2⟩
  refine ⟨rfl, h.step h1 ?_ h2 (by simp [HL.own]), h2.mono (by simp +contextual [HL.own])⟩
  cases hm : S.mayRaw r i v with
  | true => rw [if_pos rfl]; exact inv_put h.hp.ok h.inv h.hp.mr.2.2.2.1 hm hv
  | false => rw [if_neg (by simp)]; exact h.inv
end

/-- What a collection answers. -/
def GcEnd (w0 : World) (L : HL) (cv mv : Value) (S : Hp) (all : Bool) (rs : List Int) (w : World) (v : Value) (w' : World) : Prop :=
  (S.gives all < S.asks all rs ∧ v = .tuple #[.slice none 0 0, .bool false] ∧ GcAt w0 w' L cv mv S) ∨
  (S.asks all rs ≤ S.gives all ∧ ∃ sc M bg L' u, Done S all rs sc M bg ∧ v = .tuple #[u, .bool true] ∧ OwnI w' w.heap.size 3 u (rs.map (fwL M.mv)) ∧
    GcAt w0 w' L' cv mv ((S.cx all).after M bg (List.replicate ((S.A.length + 63) / 64) 0)) ∧ L'.hb = L.hb ∧ (∀ i ∈ L'.all, i ∈ L.all ∨ w.heap.size ≤ i) ∧ (∀ i ∈ L'.own, i ∈ L.own ∨ w.heap.size ≤ i) ∧ L'.cb = L.cb)

theorem MoveEnd.gc {w0 w w' : World} {L : HL} {cv mv : Value} {S : Hp} {all : Bool} {rs : List Int} {v : Value} (h : GcAt w0 w L cv mv S) (hm : MoveEnd L cv mv S all rs w v w') : GcEnd w0 L cv mv S all rs w v w' ∧ Upd L.own w w' := by
  rcases hm with ⟨h1, h2, h3, h4⟩ | ⟨h1, sc, M, bg, mb, mw, u, h2, h3, h4, h5, h6, h7, h8, h9, hu⟩
  · exact ⟨.inl ⟨h1, h2, h.step h3 h.inv h4 (by simp [HL.own])⟩, h4.mono (by simp +contextual [HL.own])⟩
  · have hs0 := h.up.size
    have htz := h.tt.lt
    have hsub : ∀ i ∈ ({ L with mb := mb, mw := mw } : HL).all, i ∈ L.all ∨ (w.heap.size ≤ i ∧ i < w'.heap.size) := fun i hi => by
      simp only [HL.all, List.mem_cons, List.not_mem_nil, or_false] at hi ⊢
      rcases hi with e | e | e | e | e | e | e | e <;> subst e <;> simp_all
    have huT : Upd L.own w w' := hu.mono (by simp +contextual [HL.own])
    refine ⟨.inr ⟨h1, sc, M, bg, _, u, h2, h3, h4, ⟨h5, inv_after h.inv _ h2, h.ups huT (fun _ h => h), fun i hi => ?_, fun i hi => ?_, fun i hi => ?_, h.tt.upd huT (fun hm => h.tz _ (HL.sub hm) rfl)⟩, rfl, fun i hi => (hsub i hi).imp id And.left, fun i hi => by
      simp only [HL.own, List.mem_cons, List.not_mem_nil, or_false] at hi ⊢
      rcases hi with e | e | e | e <;> subst e <;> first | exact .inr h7 | simp, rfl⟩, huT⟩
    · have hl := h.lo
      simp only [List.mem_cons, List.not_mem_nil, or_false] at hi hl
      rcases hi with e | e | e | e | e | e | e <;> subst e <;> first | exact hl _ (by simp) | omega
    · rcases hsub i hi with e | e
      · exact Nat.lt_of_lt_of_le (h.hi i e) hu.size
      · exact e.2
    · rcases hsub i hi with e | e
      · exact h.tz i e
      · omega

section
variable {w0 w : World} {L : HL} {cv mv : Value} {S : Hp} (h : GcAt w0 w L cv mv S)
include h
theorem gmajor (p : Option Addr) (cap rb : Nat) (rs : List Int) (hn : rs.length ≤ 100000) (hp : rs = [] ∨ p = some ⟨rb, 0, none⟩) (hr : ∀ i, i < rs.length → w.cell? ⟨rb, i, none⟩ = some (.int .i64 (rs.getD i 0))) (hrr : ∀ r ∈ rs, -9223372036854775808 ≤ r ∧ r ≤ 9223372036854775807) (hrb : rb ∉ L.all) :
    Calls Tryd.prog 14 #[.pointer (some ⟨L.hb, 0, none⟩), .slice p rs.length cap] w fun e w' => ∃ v, e = .returned v ∧ GcEnd w0 L cv mv S true rs w v w' ∧ Upd L.own w w' := by
  refine (major_any L cv mv S p cap rb rs w h.hp h.inv h.hi h.tt h.tz hn hp hr hrr (fun hm => hrb (HL.sub (by simp only [HL.own, List.mem_cons, List.not_mem_nil, or_false] at hm ⊢; rcases hm with e | e | e <;> simp [e])))).mono ?_
  rintro e w' ⟨v, rfl, hm⟩
  exact ⟨v, rfl, hm.gc h⟩
theorem gminor (p : Option Addr) (cap rb : Nat) (rs : List Int) (hn : rs.length ≤ 100000) (hp : rs = [] ∨ p = some ⟨rb, 0, none⟩) (hr : ∀ i, i < rs.length → w.cell? ⟨rb, i, none⟩ = some (.int .i64 (rs.getD i 0))) (hrr : ∀ r ∈ rs, -9223372036854775808 ≤ r ∧ r ≤ 9223372036854775807) (hrb : rb ∉ L.all) :
    Calls Tryd.prog 15 #[.pointer (some ⟨L.hb, 0, none⟩), .slice p rs.length cap] w fun e w' => ∃ v, e = .returned v ∧ GcEnd w0 L cv mv S false rs w v w' ∧ Upd L.own w w' := by
  refine (minor_any L cv mv S p cap rb rs w h.hp h.inv h.hi h.tt h.tz hn hp hr hrr (fun hm => hrb (HL.sub (by simp only [HL.own, List.mem_cons, List.not_mem_nil, or_false] at hm ⊢; rcases hm with e | e | e <;> simp [e])))).mono ?_
  rintro e w' ⟨v, rfl, hm⟩
  exact ⟨v, rfl, hm.gc h⟩
theorem gverify (p : Option Addr) (cap rb : Nat) (rs : List Int) (hn : rs.length ≤ 100000) (hp : rs = [] ∨ p = some ⟨rb, 0, none⟩) (hr : ∀ i, i < rs.length → w.cell? ⟨rb, i, none⟩ = some (.int .i64 (rs.getD i 0))) (hrr : ∀ r ∈ rs, r = 0 ∨ S.is r = true) :
    Calls Tryd.prog 26 #[.pointer (some ⟨L.hb, 0, none⟩), .slice p rs.length cap] w fun e w' => e = .returned (.bool true) ∧ Upd [] w w' :=
  verify_any L cv mv S p cap rb rs w h.hp h.inv h.hi h.tt hn hp hr hrr
theorem gshape (p : Option Addr) (cap rb : Nat) (rs : List Int) (hn : rs.length ≤ 100000) (hp : rs = [] ∨ p = some ⟨rb, 0, none⟩) (hr : ∀ i, i < rs.length → w.cell? ⟨rb, i, none⟩ = some (.int .i64 (rs.getD i 0))) (hrr : ∀ r ∈ rs, -9223372036854775808 ≤ r ∧ r ≤ 9223372036854775807) :
    Calls Tryd.prog 21 #[.pointer (some ⟨L.hb, 0, none⟩), .slice p rs.length cap] w fun e w' => ∃ uv av ps ov od, e = .returned (.tuple #[uv, av]) ∧ OutSt w' w.heap.size L cv mv S ov od av (S.shape rs).2 uv ps ∧ ps.map OP.o = (S.shape rs).1 ∧ Upd [] w w' :=
  shape_any L cv mv S p cap rb rs w h.hp h.hi h.inv.wide.rng hn hp hr hrr
end

section
variable {X : Cx} {Lv : List Int} {sc : Int → Nat → Bool} {M : Mv} {bg mr : List Nat}
/-- The nursery is empty. -/
theorem after_y (h : X.End Lv sc M bg) : (X.after M bg mr).y = { X.S.y with top := X.S.y.fr } := by
  show X.spE M 0 = _
  unfold Cx.spE
  have := tk_cases h
  rw [if_neg (by omega), if_pos (.inl rfl)]
  rfl
end
/-- Roots are roots again. -/
theorem done_root {S : Hp} {all : Bool} {rs : List Int} {sc : Int → Nat → Bool} {M : Mv} {bg mr : List Nat} (h : Done S all rs sc M bg) (hr : ∀ r ∈ rs, r = 0 ∨ S.is r = true) : ∀ r ∈ rs.map (fwL M.mv), r = 0 ∨ ((S.cx all).after M bg mr).is r = true := by
  intro r hm
  obtain ⟨a, ha, rfl⟩ := List.mem_map.1 hm
  rcases rel_fw h.fin (hr a ha) (fun hf => h.roots a ha hf) with h1 | h1
  · exact .inl h1.2
  · exact .inr ((after_is h.fin _).2 ⟨a, h1⟩)
end Go.Proofs.YtneeljhjfmcdoaaDoor
