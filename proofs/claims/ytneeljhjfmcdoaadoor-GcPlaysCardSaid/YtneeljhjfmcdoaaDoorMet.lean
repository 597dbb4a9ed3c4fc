/- overdriveref9.met: what it computes; its walk. -/
import Derived.Test.YtneeljhjfmcdoaaDoorGraph
import Derived.Test.YtneeljhjfmcdoaaDoorOwnI
import Derived.Test.YtneeljhjfmcdoaaDoorAny
import Derived.Deep.DeepCutAuto
namespace Go.Proofs.YtneeljhjfmcdoaaDoor
open Go.RowKit

/-- Objects as a graph. -/
def objGr (cs : List ByteArray) (os : List (Int × List Int)) : Gr :=
  ⟨fun r => decide (0 ≤ r ∧ r < os.length), fun r => (os.getD r.toNat (0, [])).1, fun r => ((os.getD r.toNat (0, [])).2.length : Int), fun r j => (os.getD r.toNat (0, [])).2.getD j.toNat 0,
    fun r j => decide (0 ≤ j ∧ j < ((os.getD r.toNat (0, [])).2.length : Int)) && letR cs (os.getD r.toNat (0, [])).1 j⟩

/-- The document's numbers of what has been met: its place and 1; 0: not met. -/
def numArr (od : List Int) (N : Nat) : List Int := (List.range N).map fun (r : Nat) => if (r : Int) ∈ od then ((od.idxOf (r : Int) : Nat) : Int) + 1 else 0

theorem numArr_len (od : List Int) (N : Nat) : (numArr od N).length = N := by simp [numArr]
theorem numArr_get (od : List Int) (N r : Nat) (h : r < N) : (numArr od N).getD r 0 = if (r : Int) ∈ od then ((od.idxOf (r : Int) : Nat) : Int) + 1 else 0 := by
  rw [List.getD_eq_getElem?_getD, numArr, List.getElem?_map, List.getElem?_range h]; rfl
theorem numArr_snoc (od : List Int) (N r : Nat) (_h : r < N) (hr : (r : Int) ∉ od) : (numArr od N).set r ((od.length : Int) + 1) = numArr (od ++ [(r : Int)]) N := by
  apply List.ext_getElem
  · simp [numArr_len]
  · intro i h1 h2
    rw [List.getElem_set]
    have hi : i < N := by simpa [numArr_len] using h1
    by_cases hir : r = i
    · subst hir
      rw [if_pos rfl]
      simp [numArr, hr, List.idxOf_append]
    · rw [if_neg hir]
      simp only [numArr, List.getElem_map, List.getElem_range, List.mem_append, List.mem_singleton]
      have hne : ¬ (i : Int) = (r : Int) := by omega
      by_cases hm : (i : Int) ∈ od
      · rw [if_pos hm, if_pos (.inl hm), List.idxOf_append, if_pos hm]
      · rw [if_neg hm, if_neg (by rintro (h | h); exact hm h; exact hne h)]
theorem numArr_nil (N : Nat) : numArr [] N = List.replicate N 0 := by
  apply List.ext_getElem
  · simp [numArr]
  · intro i h1 h2
    simp [numArr]

def mV (N : Nat) (od : List Int) (r : Int) : Int := if 0 ≤ r ∧ r < N then ((od.idxOf r : Nat) : Int) else -1
def mO (N : Nat) (od : List Int) (r : Int) : List Int := if (0 ≤ r ∧ r < N) ∧ r ∉ od then od ++ [r] else od
theorem mV_gr (cs : List ByteArray) (os : List (Int × List Int)) (od : List Int) (r : Int) : mV os.length od r = (objGr cs os).meetV od r := by
  unfold mV Gr.meetV objGr
  simp
theorem mO_gr (cs : List ByteArray) (os : List (Int × List Int)) (od : List Int) (r : Int) : mO os.length od r = (objGr cs os).meetO od r := by
  unfold mO Gr.meetO objGr
  simp

theorem own_ne {w : World} {b1 b2 : Nat} {e1 e2 : TypeId} {s1 s2 : Nat} {v1 v2 : Value} {n1 n2 : Nat} {x1 x2 : List Value} (h1 : w.ownsRow b1 e1 s1 v1 n1 x1) (h2 : w.ownsRow b2 e2 s2 v2 n2 x2) (he : e1 ≠ e2) (k : Nat) (hk : v1.ownBlock = some k) : v2.ownBlock ≠ some k := by
  intro hk2
  rcases h1.2 with ⟨hv, _⟩ | ⟨g, c, cur, hv, _, hg, _⟩
  · rw [hv] at hk; simp [Value.ownBlock] at hk
  · rcases h2.2 with ⟨hv2, _⟩ | ⟨g2, c2, cur2, hv2, _, hg2, _⟩
    · rw [hv2] at hk2; simp [Value.ownBlock] at hk2
    · rw [hv] at hk
      rw [hv2] at hk2
      simp only [Value.ownBlock, Option.some.injEq] at hk hk2
      subst hk
      subst hk2
      rw [hg] at hg2
      injection hg2 with hg2
      injection hg2 with _ h _
      exact he h

/-- A value's block is the old one, or a new one. -/
def Kept (w : World) (v v' : Value) : Prop := v'.ownBlock = v.ownBlock ∨ ∃ k, v'.ownBlock = some k ∧ w.heap.size ≤ k
theorem Kept.refl (w : World) (v : Value) : Kept w v v := .inl rfl

/-- What met works on. -/
structure MetSt (w : World) (base nb N : Nat) (ov uv : Value) (od outs : List Int) : Prop where
  num : w.heap[nb]? = some (.cells (icells (numArr od N)) 3)
  ord : OwnI w base 2 ov od
  out : OwnI w base 3 uv outs
  lt : nb < base
  le : base ≤ w.heap.size

theorem OwnI.snoc {w : World} {base : Nat} {e : TypeId} {v : Value} {xs : List Int} {x : Int} (h : w.ownsRow base e 1 v (xs.length + 1) (xs.map (Value.int .i64) ++ [.int .i64 x])) : OwnI w base e v (xs ++ [x]) := by
  unfold OwnI
  simpa using h

theorem MetSt.pushOut {w w2 : World} {base nb N : Nat} {ov uv v1 : Value} {od outs : List Int} {x : Int} {o : Obj} (h : MetSt w base nb N ov uv od outs) (hown : w2.ownsRow base 3 1 v1 (outs.length + 1) (outs.map (Value.int .i64) ++ [.int .i64 x]))
    (hgr : (w.alloc o).grownBy w2 uv.ownBlock) (hat : v1.ownBlock = uv.ownBlock ∨ v1.ownBlock = some (w.alloc o).heap.size) :
    MetSt w2 base nb N ov v1 od (outs ++ [x]) ∧ Upd uv.ownBlock.toList w w2 ∧ Kept w uv v1 := by
  have hu : Upd uv.ownBlock.toList w w2 := ((Upd.refl _ w).alloc o).grown hgr (fun q hq => Or.inl (Option.mem_toList.2 hq))
  refine ⟨⟨hu.heap h.num (fun hm => ?_), h.ord.upd hu (fun k hk hm => own_ne h.ord h.out (by decide) k hk (Option.mem_toList.1 hm)), OwnI.snoc hown, h.lt, Nat.le_trans h.le hu.size⟩, hu, ?_⟩
  · have := (h.out.lt nb (Option.mem_toList.1 hm)).1
    have := h.lt
    omega
  · rcases hat with h1 | h1
    · exact .inl h1
    · exact .inr ⟨_, h1, by simp⟩

theorem MetSt.pushOrd {w w2 : World} {base nb N : Nat} {ov uv v1 : Value} {od outs : List Int} {r : Nat} {o : Obj} (h : MetSt w base nb N ov uv od outs) (hr : r < N) (hno : (r : Int) ∉ od) (hown : w2.ownsRow base 2 1 v1 (od.length + 1) (od.map (Value.int .i64) ++ [.int .i64 (r : Int)]))
    (hgr : (w.alloc o).grownBy w2 ov.ownBlock) (hat : v1.ownBlock = ov.ownBlock ∨ v1.ownBlock = some (w.alloc o).heap.size) :
    w2.heap[nb]? = some (.cells (icells (numArr od N)) 3) ∧ MetSt (w2.setCell ⟨nb, r, none⟩ (.int .i64 ((od.length : Int) + 1))) base nb N v1 uv (od ++ [(r : Int)]) outs ∧ Upd ([nb] ++ ov.ownBlock.toList) w (w2.setCell ⟨nb, r, none⟩ (.int .i64 ((od.length : Int) + 1))) ∧ Kept w ov v1 := by
  have hu : Upd ov.ownBlock.toList w w2 := ((Upd.refl _ w).alloc o).grown hgr (fun q hq => Or.inl (Option.mem_toList.2 hq))
  have hn2 := hu.heap h.num (fun hm => by
    have := (h.ord.lt nb (Option.mem_toList.1 hm)).1
    have := h.lt
    omega)
  have hu3 : Upd [nb] w2 (w2.setCell ⟨nb, r, none⟩ (.int .i64 ((od.length : Int) + 1))) := (Upd.refl _ _).setCell (Or.inl (by simp)) _
  have hlt := h.lt
  refine ⟨hn2, ⟨?_, ?_, ?_, h.lt, Nat.le_trans h.le (Nat.le_trans hu.size hu3.size)⟩, ?_, ?_⟩
  · have := heap_setCell hn2 r (.int .i64 ((od.length : Int) + 1))
    rwa [icells_set, numArr_snoc od N r hr hno] at this
  · refine (OwnI.snoc hown).upd hu3 (fun k hk hm => ?_)
    have := (hown.lt k hk).1
    simp at hm; omega
  · refine (h.out.upd hu (fun k hk hm => own_ne h.out h.ord (by decide) k hk (Option.mem_toList.1 hm))).upd hu3 (fun k hk hm => ?_)
    have := (h.out.lt k hk).1
    simp at hm; omega
  · exact (hu.mono (fun i hi _ => by simp at hi ⊢; exact .inr hi)).trans (hu3.mono (fun i hi _ => by simp at hi ⊢; exact .inl hi))
  · rcases hat with h1 | h1
    · exact .inl h1
    · exact .inr ⟨_, h1, by simp⟩

set_option maxRecDepth 100000 in
set_option maxHeartbeats 2000000 in
theorem met_any (base nb N : Nat) (ov uv : Value) (od outs : List Int) (p : Option Addr) (cap : Nat) (r : Int) (w : World) (h : MetSt w base nb N ov uv od outs) (_hN : N ≤ 100000) (hl1 : od.length ≤ 100000) (hl2 : outs.length ≤ 100000) :
    Calls Tryd.prog 85 #[.slice p N cap, .slice (some ⟨nb, 0, none⟩) N N, ov, .int .i64 r, uv] w fun e w' =>
      ∃ ov' uv', e = .returned (.tuple #[ov', uv']) ∧ MetSt w' base nb N ov' uv' (mO N od r) (outs ++ [mV N od r]) ∧ Upd ([nb] ++ ov.ownBlock.toList ++ uv.ownBlock.toList) w w' ∧ Kept w ov ov' ∧ Kept w uv uv' := by
  obtain ⟨i0, hi, hz0, hz1, hz2⟩ := info_parts Tryd.infoInt
  have HI := Lib.hid hi
  have HZ0 := Lib.hid hz0
  have HZ1 := Lib.hid hz1
  have HZ2 := Lib.hid hz2
  clear hi hz0 hz1 hz2
  have hub := h.out.lt
  have hob := h.ord.lt
  by_cases hin : 0 ≤ r ∧ r < N
  · obtain ⟨q, rfl⟩ := Int.eq_ofNat_of_zero_le hin.1
    have hq : q < N := by omega
    have HV := Lib.hid (show mV N od (q : Int) = ((od.idxOf (q : Int) : Nat) : Int) by unfold mV; rw [if_pos hin])
    have HG := Lib.hid (numArr_get od N q hq)
    have hcell : w.cell? ⟨nb, q, none⟩ = some (.int .i64 ((numArr od N).getD q 0)) := by
      rw [cell_of h.num]; exact icells_get _ q (by rw [numArr_len]; exact hq)
    have hfz := froz_of h.num q
    have HH := Lib.hid h
    have hbs := h.le
    have hidx : od.idxOf (q : Int) ≤ od.length := List.idxOf_le_length
    have d0 : decide ((q : Int) < 0) = false := by simp
    have d1 : decide (N ≤ q) = false := by simp; omega
    clear hub hob h
    by_cases hm : (q : Int) ∈ od
    · have HO := Lib.hid (show mO N od (q : Int) = od by unfold mO; rw [if_neg (fun hc => hc.2 hm)])
      rw [HG.out, if_pos hm] at hcell
      have hnz : ((((od.idxOf (q : Int) : Nat) : Int) + 1) == 0) = false := by rw [beq_eq_false_iff_ne]; omega
      clear hm
      go_enter Tryd.func85, Tryd.ntmps85
      go_wp2_with (at_builtin; refine stop_here ?_)
      refine Hid.mk ?_
      refine (wpList_append_src rfl (.tmp 39) (.tmp 45) 22 rfl base 3 i0 (.int .i64 0) 1 8 Tryd.underlying22 HI.out HZ0.out HZ1.out HZ2.out rfl (by decide) _ _ _ rfl (World.ownsRow.alloc HH.out.out _) (.slice (some ⟨w.heap.size, 0, none⟩) 1 1) 1 [.int .i64 ((od.idxOf (q : Int) : Nat) : Int)] rfl (.inr ⟨_, _, rfl, cell_one_new _ _ _⟩) rfl (by simp [Value.oneCell']) (by unfold maxLen; omega) (by omega) (by simp; omega) ?_)
      intro v1 w2 hown hgr hat
      obtain ⟨h2, hu2, hk2⟩ := HH.out.pushOut hown hgr hat
      have H2 := Lib.hid h2
      have HU2 := Lib.hid hu2
      have HK2 := Lib.hid hk2
      clear hown hgr hat h2 hu2 hk2
      go_wp2_with fail
      go_ret2
      exact ⟨_, _, rfl, by rw [HO.out, HV.out]; exact H2.out, HU2.out.mono (fun i hi _ => by simp at hi ⊢; exact .inr (.inr hi)), Kept.refl _ _, HK2.out⟩
    · have HO := Lib.hid (show mO N od (q : Int) = od ++ [(q : Int)] by unfold mO; rw [if_pos ⟨hin, hm⟩])
      have HIX := Lib.hid (List.idxOf_eq_length hm)
      rw [HG.out, if_neg hm] at hcell
      have HNM := Lib.hid hm
      clear hm
      obtain ⟨i1, hi, hz0, hz1, hz2⟩ := info_parts Tryd.infoLong
      have JI := Lib.hid hi
      have JZ0 := Lib.hid hz0
      have JZ1 := Lib.hid hz1
      have JZ2 := Lib.hid hz2
      clear hi hz0 hz1 hz2
      go_enter Tryd.func85, Tryd.ntmps85
      go_wp2_with (at_builtin; refine stop_here ?_)
      refine Hid.mk ?_
      refine (wpList_append_src rfl (.tmp 29) (.tmp 31) 70 rfl base 2 i1 (.int .i64 0) 1 8 Tryd.underlying70 JI.out JZ0.out JZ1.out JZ2.out rfl (by decide) _ _ _ rfl (World.ownsRow.alloc HH.out.ord _) (.slice (some ⟨w.heap.size, 0, none⟩) 1 1) 1 [.int .i64 (q : Int)] rfl (.inr ⟨_, _, rfl, cell_one_new _ _ _⟩) rfl (by simp [Value.oneCell']) (by unfold maxLen; omega) (by omega) (by simp; omega) ?_)
      intro v1 w2 hown hgr hat
      obtain ⟨hn2, h2, hu2, hk2⟩ := HH.out.pushOrd hq HNM.out hown hgr hat
      obtain ⟨vp, vc, rfl⟩ : ∃ p c, v1 = .slice p (od.length + 1) c := by
        rcases hown.2 with ⟨_, hz⟩ | ⟨g, c, _, hv, _⟩
        · omega
        · exact ⟨_, c, hv⟩
      have hc2 := cell_of hn2 q
      rw [icells_get _ q (by rw [numArr_len]; exact hq)] at hc2
      have hf2 := froz_of hn2 q
      have H2 := Lib.hid h2
      have HU2 := Lib.hid hu2
      have HK2 := Lib.hid hk2
      clear hown hgr hat h2 hu2 hk2 hn2 hcell hfz
      go_wp2_with (at_builtin; refine stop_here ?_)
      refine Hid.mk ?_
      have hz3 : (w2.setCell ⟨nb, q, none⟩ (.int .i64 ((od.length : Int) + 1))).heap.size = w2.heap.size := by simp [World.setCell]
      generalize hw3 : w2.setCell ⟨nb, q, none⟩ (.int .i64 ((od.length : Int) + 1)) = w3 at *
      have hcn := cell_one_new w3 (.int .i64 (od.length : Int)) 3
      rw [hz3] at hcn
      refine (wpList_append_src rfl (.tmp 39) (.tmp 45) 22 rfl base 3 i0 (.int .i64 0) 1 8 Tryd.underlying22 HI.out HZ0.out HZ1.out HZ2.out rfl (by decide) _ _ _ rfl (World.ownsRow.alloc H2.out.out _) (.slice (some ⟨w2.heap.size, 0, none⟩) 1 1) 1 [.int .i64 (od.length : Int)] rfl (.inr ⟨_, _, rfl, hcn⟩) rfl (by simp [Value.oneCell']) (by unfold maxLen; omega) (by omega) (by have := H2.out.le; simp; omega) ?_)
      intro v2 w4 hown hgr hat
      obtain ⟨h4, hu4, hk4⟩ := H2.out.pushOut hown hgr hat
      have H4 := Lib.hid h4
      have HU4 := Lib.hid hu4
      have HK4 := Lib.hid hk4
      clear hown hgr hat h4 hu4 hk4
      go_wp2_with fail
      go_ret2
      refine ⟨_, _, rfl, ?_, ?_, HK2.out, ?_⟩
      · rw [HO.out, HV.out, HIX.out]; exact H4.out
      · exact (HU2.out.mono (fun i hi _ => by simp at hi ⊢; rcases hi with h | h; exact .inl h; exact .inr (.inl h))).trans' HU4.out (fun i hi _ => by simp at hi ⊢; exact .inr (.inr hi))
      · rcases HK4.out with h1 | ⟨k, h1, h2⟩
        · exact .inl h1
        · exact .inr ⟨k, h1, Nat.le_trans HU2.out.size h2⟩
  · have HV := Lib.hid (show mV N od r = -1 by unfold mV; rw [if_neg hin])
    have HO := Lib.hid (show mO N od r = od by unfold mO; rw [if_neg (fun hc => hin hc.1)])
    have HH := Lib.hid h
    have HUB := Lib.hid hub
    have HOB := Lib.hid hob
    clear hub hob h
    have hbs := HH.out.le
    go_enter Tryd.func85, Tryd.ntmps85
    go_upto_region 1 with fail
    go_cut [19] (fun s wx => s = .bool true ∧ w = wx)
    case first =>
      go_wp2_with fail
      all_goals go_meet
      all_goals refine ⟨?_, rfl⟩
      all_goals first | rfl | (congr 1; simp only [Bool.or_eq_true, decide_eq_true_eq]; omega)
    case rest =>
      obtain ⟨rfl, rfl⟩ := hcut
      go_wp2_with (at_builtin; refine stop_here ?_)
      refine Hid.mk ?_
      refine (wpList_append_src rfl (.tmp 21) (.tmp 22) 22 rfl base 3 i0 (.int .i64 0) 1 8 Tryd.underlying22 HI.out HZ0.out HZ1.out HZ2.out rfl (by decide) _ _ _ rfl (World.ownsRow.alloc HH.out.out _) (.slice (some ⟨w.heap.size, 0, none⟩) 1 1) 1 [.int .i64 (-1)] rfl (.inr ⟨_, _, rfl, cell_one_new _ _ _⟩) rfl (by simp [Value.oneCell']) (by unfold maxLen; omega) (by omega) (by simp; omega) ?_)
      intro v1 w2 hown hgr hat
      obtain ⟨h2, hu2, hk2⟩ := HH.out.pushOut hown hgr hat
      have H2 := Lib.hid h2
      have HU2 := Lib.hid hu2
      have HK2 := Lib.hid hk2
      clear hown hgr hat h2 hu2 hk2
      go_wp2_with fail
      go_ret2
      exact ⟨_, _, rfl, by rw [HO.out, HV.out]; exact H2.out, HU2.out.mono (fun i hi _ => by simp at hi ⊢; exact .inr (.inr hi)), Kept.refl _ _, HK2.out⟩

end Go.Proofs.YtneeljhjfmcdoaaDoor
