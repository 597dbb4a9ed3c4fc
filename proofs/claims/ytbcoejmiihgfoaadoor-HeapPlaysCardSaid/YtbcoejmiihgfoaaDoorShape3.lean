/- Shape: the map of numbers, and the closure that meets an object. Shape: what it computes, and its memory. Shape: the walk. -/
import Derived.Test.YtbcoejmiihgfoaaDoorHeap7
import Derived.Test.YtbcoejmiihgfoaaDoorInts
import Derived.Maps.OwnOps
import Derived.Maps.OwnSet
import Derived.Maps.Views
import Derived.Maps.AppendAt
import Derived.WalkArith
import Derived.Carry
/-! Shape: the map of numbers, and the closure that meets an object. -/
namespace Go.Proofs.YtbcoejmiihgfoaaDoor
open Go.RowKit

theorem zeroI (w : World) : (zeroValue 3).run Tryd.prog w = .ok (.int .i64 0) w := by kernel_rfl

/-- A datum that tells each of these integers its place. -/
def NumD (D : DataW Nat) (od : List Int) : Prop :=
 Maps.IsMap D ∧ ∀ r : Int, (Lit.int .i64 r).wf = true → Maps.has D (.int .i64 r) = decide (r ∈ od) ∧ (r ∈ od → D.atKey (.int .i64 r) (.lit (.int .i64 0)) = .lit (.int .i64 ((od.idxOf r : Nat) : Int)))

theorem NumD.nil : NumD (.map []) [] := ⟨Maps.isMap_empty, fun r _ => ⟨by simp [Maps.has], by simp⟩⟩

theorem NumD.put {D : DataW Nat} {od : List Int} (h : NumD D od) {r : Int} (hr : (Lit.int .i64 r).wf = true) (hn : r ∉ od) : NumD (D.put (.int .i64 r) (.lit (.int .i64 ((od.length : Nat) : Int)))) (od ++ [r]) := by
 refine ⟨h.1.put _ _, fun q hq => ?_⟩
 have hk : WideAt.IsKeyLit (.int .i64 r) := (Maps.int_keyed Tryd.underlying3).key (Maps.keyOf_int_mk Tryd.underlying3 hr)
 by_cases e : q = r
 ·subst e
  refine ⟨by rw [Maps.has_put_same h.1 hk]; simp, fun _ => ?_⟩
  rw [Maps.atKey_put_same h.1 hk, List.idxOf_append]
  simp [hn]
 ·have hne : (Lit.int .i64 q) ≠ .int .i64 r := by simpa using e
  obtain ⟨h1, h2⟩ := h.2 q hq
  refine ⟨by rw [Maps.has_put_other hne, h1]; simp [e], fun hm => ?_⟩
  have hm' : q ∈ od := by simpa [e] using hm
  rw [Maps.atKey_put_other hne, h2 hm', List.idxOf_append]
  simp [hm']

/-- What the closure answers, and what the order is then. -/
def Hp.meetV (S : Hp) (od : List Int) (r : Int) : Int := if S.is r = true then ((od.idxOf r : Nat) : Int) else -1
def Hp.meetO (S : Hp) (od : List Int) (r : Int) : List Int := if S.is r = true ∧ r ∉ od then od ++ [r] else od

/-- Shape's own memory, from block B on: the heap's variable, the map, the map's variable, the order's variable, the order's row. -/
structure Shp (w : World) (B : Nat) (L : HL) (cv mv : Value) (S : Hp) (ov : Value) (od : List Int) : Prop where
 hp : HpAt w L cv mv S
 c0 : w.heap[B]? = some (.cells #[.pointer (some ⟨L.hb, 0, none⟩)] 33)
 c2 : w.heap[B + 2]? = some (.cells #[.map (some (B + 1))] 99)
 c3 : w.heap[B + 3]? = some (.cells #[ov] 29)
 row : w.ownsRow (B + 4) 3 1 ov od.length (od.map (Value.int .i64))
 num : ∃ D : DataW Nat, w.ownsMap Tryd.prog 3 (plainElem Tryd.prog 3) (B + 1) od.length D ∧ NumD D od
 low : ∀ i ∈ L.all, i < B
 nd : od.Nodup
 obj : ∀ r ∈ od, S.is r = true

theorem idx_bound (od : List Int) (r : Int) : od.idxOf r ≤ od.length := List.idxOf_le_length

set_option maxHeartbeats 400000 in
theorem meet_no (B : Nat) (L : HL) (cv mv : Value) (S : Hp) (ov : Value) (od : List Int) (r : Int) (w : World) (h : Shp w B L cv mv S ov od) (hr : S.is r = false) (hb : -9223372036854775808 ≤ r ∧ r ≤ 9223372036854775807) :
  Calls Tryd.prog 45 #[.int .i64 r, .pointer (some ⟨B, 0, none⟩), .pointer (some ⟨B + 2, 0, none⟩), .pointer (some ⟨B + 3, 0, none⟩)] w fun e w' => e = .returned (.int .i64 (-1)) ∧ w = w' := by
 have hc0 := cell_of h.c0 0
 have hh := h.hp
 go_enter Tryd.func45, Tryd.ntmps45
 go_wp2_with fail
 refine (is_no _ _ _ _ _ _ hh hr hb.2).mono ?_
 rintro e w' ⟨rfl, rfl⟩
 go_wp2_with fail
 go_ret
 exact ⟨rfl, rfl⟩

set_option maxHeartbeats 400000 in
theorem meet_old (B : Nat) (L : HL) (cv mv : Value) (S : Hp) (ov : Value) (od : List Int) (r : Int) (w : World) (h : Shp w B L cv mv S ov od) (hr : S.is r = true) (hm : r ∈ od) (hb : -9223372036854775808 ≤ r ∧ r ≤ 9223372036854775807) :
  Calls Tryd.prog 45 #[.int .i64 r, .pointer (some ⟨B, 0, none⟩), .pointer (some ⟨B + 2, 0, none⟩), .pointer (some ⟨B + 3, 0, none⟩)] w fun e w' => e = .returned (.int .i64 ((od.idxOf r : Nat) : Int)) ∧ w = w' := by
 have hc0 := cell_of h.c0 0
 have hc2 := cell_of h.c2 0
 have hh := h.hp
 obtain ⟨D, hown, hD⟩ := h.num
 have hwf : (Lit.int .i64 r).wf = true := Go.WalkArith.wf_i64 hb
 obtain ⟨hhas, hat⟩ := hD.2 r hwf
 have hh2 : Maps.has D (.int .i64 r) = true := by rw [hhas]; simpa using hm
 have HAT := Lib.hid (hat hm)
 have HR := Lib.hid hr
 clear hat hhas hr hD
 have hkey := Maps.keyOf_int_mk (P := Tryd.prog) Tryd.underlying3 hwf
 have law := Maps.int_keyed (P := Tryd.prog) Tryd.underlying3
 go_enter Tryd.func45, Tryd.ntmps45
 go_wp2_with fail
 refine (is_yes _ _ _ _ _ _ hh HR.out).mono ?_
 rintro e w' ⟨rfl, rfl⟩
 go_wp2_with (at_lookup; refine stop_here ?_)
 refine Hid.mk ?_
 refine wpList_lookup_own_ok_int _ rfl _ _ 99 rfl 3 3 .i64 law Tryd.underlying99 Tryd.underlying3 (zeroI _) (B + 1) od.length D rfl hown _ _ rfl hkey ?_
 intro c hc _
 rw [hh2]
 clear hc
 go_wp2_with (at_lookup; refine stop_here ?_)
 refine Hid.mk ?_
 refine wpList_lookup_own_int _ rfl _ _ 99 rfl 3 3 .i64 law Tryd.underlying99 Tryd.underlying3 (zeroI _) (B + 1) od.length D rfl hown _ _ rfl hkey ?_
 intro d hd _
 rw [HAT.out] at hd
 have hdd : ((od.idxOf r : Nat) : Int) = d := by simpa using hd
 clear hd
 subst hdd
 go_wp2_with fail
 go_ret
 exact ⟨rfl, rfl⟩

theorem len_le : ∀ (n : Nat) (od : List Int), od.Nodup → (∀ r ∈ od, 1 ≤ r ∧ r ≤ (n : Int)) → od.length ≤ n := by
 intro n
 induction n with
 | zero =>
  intro od _ h
  cases od with
  | nil => simp
  | cons a t => have := h a (by simp); omega
 | succ n ih =>
  intro od hn h
  have h1 := ih (od.erase ((n + 1 : Nat) : Int)) (hn.erase _) (fun r hr => by
   have h2 := (hn.mem_erase_iff).1 hr
   have h3 := h r h2.2
   have h4 := h2.1
   omega)
  have h5 := List.length_erase (a := ((n + 1 : Nat) : Int)) (l := od)
  split at h5 <;> omega

theorem Shp.few {w : World} {B : Nat} {L : HL} {cv mv : Value} {S : Hp} {ov : Value} {od : List Int} (h : Shp w B L cv mv S ov od) : od.length ≤ S.A.length :=
 len_le _ _ h.nd (fun r hr => by have := h.hp.ok.le (h.obj r hr); omega)

theorem Shp.form {w : World} {B : Nat} {L : HL} {cv mv : Value} {S : Hp} {ov : Value} {od : List Int} (h : Shp w B L cv mv S ov od) : ∃ p c, ov = .slice p od.length c := by
 rcases h.row.2 with ⟨h1, h2⟩ | ⟨g, c, _, h1, _⟩
 ·exact ⟨none, 0, by rw [h1, h2]⟩
 ·exact ⟨_, c, h1⟩

set_option maxHeartbeats 800000 in
theorem meet_new (B : Nat) (L : HL) (cv mv : Value) (S : Hp) (ov : Value) (od : List Int) (r : Int) (w : World) (h : Shp w B L cv mv S ov od) (hr : S.is r = true) (hm : r ∉ od) (hb : -9223372036854775808 ≤ r ∧ r ≤ 9223372036854775807) :
  Calls Tryd.prog 45 #[.int .i64 r, .pointer (some ⟨B, 0, none⟩), .pointer (some ⟨B + 2, 0, none⟩), .pointer (some ⟨B + 3, 0, none⟩)] w fun e w' => ∃ ov', e = .returned (.int .i64 ((od.length : Nat) : Int)) ∧ Shp w' B L cv mv S ov' (od ++ [r]) ∧
   Upd ([B + 1, B + 3] ++ ov.ownBlock.toList) w w' ∧ (ov'.ownBlock = ov.ownBlock ∨ ∃ k, ov'.ownBlock = some k ∧ w.heap.size ≤ k) := by
 have hlen := h.few
 have hA := h.hp.ok.len
 obtain ⟨p, oc, rfl⟩ := h.form
 have hc0 := cell_of h.c0 0
 have hc2 := cell_of h.c2 0
 have hc3 := cell_of h.c3 0
 have hh := h.hp
 obtain ⟨D, hown, hD⟩ := h.num
 have hwf : (Lit.int .i64 r).wf = true := Go.WalkArith.wf_i64 hb
 obtain ⟨hhas, hat⟩ := hD.2 r hwf
 have hh2 : Maps.has D (.int .i64 r) = false := by rw [hhas]; simpa using hm
 have HR := Lib.hid hr
 have HM := Lib.hid hm
 have H := Lib.hid h
 have HP := Lib.hid (hD.put hwf hm)
 clear hat hhas hr hD hm
 have hkey := Maps.keyOf_int_mk (P := Tryd.prog) Tryd.underlying3 hwf
 have law := Maps.int_keyed (P := Tryd.prog) Tryd.underlying3
 have hrow := h.row
 have hlt := hown.lt
 have hl3 := lt_of_heap h.c3
 obtain ⟨i0, hi, hz0, hz1, hz2⟩ := info_parts Tryd.infoInt
 have HI := Lib.hid hi
 have HZ0 := Lib.hid hz0
 have HZ1 := Lib.hid hz1
 have HZ2 := Lib.hid hz2
 clear hi hz0 hz1 hz2 h
 go_enter Tryd.func45, Tryd.ntmps45
 go_wp2_with fail
 refine (is_yes _ _ _ _ _ _ hh HR.out).mono ?_
 rintro e w' ⟨rfl, rfl⟩
 go_wp2_with (at_lookup; refine stop_here ?_)
 refine Hid.mk ?_
 refine wpList_lookup_own_ok_int _ rfl _ _ 99 rfl 3 3 .i64 law Tryd.underlying99 Tryd.underlying3 (zeroI _) (B + 1) od.length D rfl hown _ _ rfl hkey ?_
 intro c hc _
 rw [hh2]
 clear hc
 go_wp2_with (at_mapUpdate; refine stop_here ?_)
 refine Hid.mk ?_
 refine wpList_mapUpdate_own _ rfl _ _ _ 99 rfl 3 3 law Tryd.underlying99 _ (B + 1) od.length D rfl hown (by unfold maxLen; omega) _ _ _ rfl rfl hkey (.lit (.int .i64 ((od.length : Nat) : Int))) [] (plainElem_int Tryd.underlying3 (Go.WalkArith.wf_i64 (by omega))) ?_
 intro w1 hown1 hg1
 have hrow1 := hrow.kept hg1 ?r1
 case r1 =>
  rcases hb' : Value.ownBlock (.slice p od.length oc) with _ | k
  ·exact .inl rfl
  ·refine .inr ?_
   have := (hrow.lt k hb').1
   intro e
   injection e with e
   omega
 have hu1 : Upd [B + 1] w w1 := (Upd.refl [B + 1] w).grown hg1 (fun q hq => Or.inl (by cases hq; simp))
 have hc2' := hu1.cell hc2 (by simp)
 have hc3' := hu1.cell hc3 (by simp)
 have hs1 := hu1.size
 go_wp2_with (at_builtin; refine stop_here ?_)
 refine Hid.mk ?_
 refine (wpList_append_own_at _ rfl _ _ 29 rfl (B + 4) 3 i0 (.int .i64 0) 1 8 Tryd.underlying29 HI.out HZ0.out HZ1.out HZ2.out rfl (by decide) _ _ _ rfl (hrow1.alloc _) ⟨w1.heap.size, 0, none⟩ 1 1 [.int .i64 r] rfl rfl ?c1 ?c2 ?c3 ?c4 ?c5 ?c6)
 case c1 => exact cell_one_new _ _ _
 case c2 => simp [Value.oneCell']
 case c3 => unfold maxLen; omega
 case c4 => omega
 case c5 => simp; omega
 case c6 =>
  intro v' w6 hown' hgrow _ hat
  have hlo : ∀ q, Value.ownBlock (.slice p od.length oc) = some q → B + 4 ≤ q := fun q hq => (hrow.lt q hq).1
  have hu6 : Upd ([B + 1] ++ (Value.ownBlock (.slice p od.length oc)).toList) w w6 := ((hu1.mono (fun i hi _ => by simp at hi; simp [hi])).alloc _).grown hgrow (fun q hq => Or.inl (List.mem_append.2 (.inr (Option.mem_toList.2 hq))))
  have hnot : B + 3 ∉ [B + 1] ++ (Value.ownBlock (.slice p od.length oc)).toList := by
   simp only [List.mem_append, List.mem_singleton, Option.mem_toList, not_or]
   exact ⟨by omega, fun e => by have := hlo _ e; omega⟩
  have hnot2 : B + 2 ∉ [B + 1] ++ (Value.ownBlock (.slice p od.length oc)).toList := by
   simp only [List.mem_append, List.mem_singleton, Option.mem_toList, not_or]
   exact ⟨by omega, fun e => by have := hlo _ e; omega⟩
  have H3 := hu6.heap H.out.c3 hnot
  have hc3'' := cell_of H3 0
  have hf3 := froz_of H3 0
  have hc2'' := hu6.cell hc2 hnot2
  have hown6 := (hown1.alloc (.cells #[.int .i64 r] 3)).kept hgrow (by intro e; have := hlo _ e.symm; omega)
  have hs6 := hu6.size
  have hkeep : Hid (∀ x : Value, (w6.setCell ⟨B + 3, 0, none⟩ x).ownsMap Tryd.prog 3 (plainElem Tryd.prog 3) (B + 1) (od.length + 1) (D.put (.int .i64 r) (.lit (.int .i64 ((od.length : Nat) : Int))))) := Hid.mk (fun x => hown6.kept (row := some (B + 3)) ⟨rfl, rfl, rfl, by simp [World.setCell], fun k _ hk => Below.heap_setCell _ _ _ _ (fun e => hk (by rw [e]))⟩ (by intro e; injection e with e; omega))
  obtain ⟨g, c', hv'⟩ : ∃ g c', v' = .slice (some ⟨g, 0, none⟩) (od.length + 1) c' := by
   rcases hown'.2 with ⟨_, hz⟩ | ⟨g, c', _, hv, _⟩
   ·omega
   ·exact ⟨g, c', hv⟩
  subst hv'
  have HO := Lib.hid hown'
  have HU := Lib.hid hu6
  have HAT2 := Lib.hid hat
  have HS := Lib.hid hs6
  clear hown' hgrow hat hu6 hown6 hown1 hown hrow hrow1 hg1 hu1 hc2 hc3 hc2' hc3' hc0
  go_wp2_with (at_lookup; refine stop_here ?_)
  refine Hid.mk ?_
  refine wpList_lookup_own_int _ rfl _ _ 99 rfl 3 3 .i64 law Tryd.underlying99 Tryd.underlying3 (zeroI _) (B + 1) (od.length + 1) _ rfl (hkeep.out _) _ _ rfl hkey ?_
  intro d hd _
  have hdd : ((od.length : Nat) : Int) = d := by
   have h1 := (HP.out.2 r hwf).2 (by simp)
   rw [h1, List.idxOf_append] at hd
   simpa [HM.out] using hd
  clear hd
  subst hdd
  go_wp2_with fail
  go_ret
  have hU7 : ∀ x : Value, Upd ([B + 1, B + 3] ++ (Value.ownBlock (.slice p od.length oc)).toList) w (w6.setCell ⟨B + 3, 0, none⟩ x) := fun x =>
   (HU.out.mono (fun i hi _ => by simp only [List.mem_append, List.mem_cons, List.not_mem_nil, or_false] at hi ⊢; rcases hi with h | h; exact .inl (.inl h); exact .inr h)).setCell (Or.inl (by simp)) _
  have hno : ∀ i, i < B + 4 → i ≠ B + 1 → i ≠ B + 3 → i ∉ [B + 1, B + 3] ++ (Value.ownBlock (.slice p od.length oc)).toList := by
   intro i h1 h2 h3 hm
   simp only [List.mem_append, List.mem_cons, List.not_mem_nil, or_false, Option.mem_toList] at hm
   rcases hm with (h | h) | h
   ·exact h2 h
   ·exact h3 h
   ·have := hlo _ h; omega
  refine ⟨.slice (some ⟨g, 0, none⟩) (od.length + 1) c', rfl, ⟨?_, (hU7 _).heap H.out.c0 (hno _ (by omega) (by omega) (by omega)), (hU7 _).heap H.out.c2 (hno _ (by omega) (by omega) (by omega)), ?_, ?_, ⟨_, by simpa using hkeep.out _, HP.out⟩, H.out.low, ?_, ?_⟩, hU7 _, ?_⟩
  ·exact hh.upd (hU7 _) (fun i hi => hno i (by have := H.out.low i hi; omega) (by have := H.out.low i hi; omega) (by have := H.out.low i hi; omega))
  ·have := heap_setCell H3 0 (.slice (some ⟨g, 0, none⟩) (od.length + 1) c')
   simpa using this
  ·have h1 := HO.out.kept (w' := w6.setCell ⟨B + 3, 0, none⟩ (.slice (some ⟨g, 0, none⟩) (od.length + 1) c')) (row := some (B + 3)) ⟨rfl, rfl, rfl, by simp [World.setCell], fun k _ hk => Below.heap_setCell _ _ _ _ (fun e => hk (by rw [e]))⟩ (.inr (by
    intro e
    have := (HO.out.lt _ e).1
    omega))
   simpa using h1
  ·rw [List.nodup_append]
   exact ⟨H.out.nd, by simp, by intro a ha b hb e; simp at hb; subst hb; subst e; exact HM.out ha⟩
  ·intro q hq
   rcases List.mem_append.1 hq with h1 | h1
   ·exact H.out.obj q h1
   ·simp at h1; subst h1; exact HR.out
  ·rcases HAT2.out with h1 | h1
   ·exact .inl h1
   ·exact .inr ⟨_, h1, by simp; omega⟩

/-- Frames of the closure: which blocks it may have written. -/
def Met (B : Nat) (ov ov' : Value) (w w' : World) : Prop := Upd ([B + 1, B + 3] ++ ov.ownBlock.toList) w w' ∧ (ov'.ownBlock = ov.ownBlock ∨ ∃ k, ov'.ownBlock = some k ∧ w.heap.size ≤ k)

theorem Met.refl (B : Nat) (ov : Value) (w : World) : Met B ov ov w w := ⟨Upd.refl _ _, .inl rfl⟩

theorem meet_any (B : Nat) (L : HL) (cv mv : Value) (S : Hp) (ov : Value) (od : List Int) (r : Int) (w : World) (h : Shp w B L cv mv S ov od) (hb : -9223372036854775808 ≤ r ∧ r ≤ 9223372036854775807) :
  Calls Tryd.prog 45 #[.int .i64 r, .pointer (some ⟨B, 0, none⟩), .pointer (some ⟨B + 2, 0, none⟩), .pointer (some ⟨B + 3, 0, none⟩)] w fun e w' => ∃ ov', e = .returned (.int .i64 (S.meetV od r)) ∧ Shp w' B L cv mv S ov' (S.meetO od r) ∧ Met B ov ov' w w' := by
 unfold Hp.meetV Hp.meetO
 cases hr : S.is r with
 | false =>
  refine (meet_no B L cv mv S ov od r w h hr hb).mono ?_
  rintro e w' ⟨rfl, rfl⟩
  exact ⟨ov, rfl, h, Met.refl _ _ _⟩
 | true =>
  by_cases hm : r ∈ od
  ·refine (meet_old B L cv mv S ov od r w h hr hm hb).mono ?_
   rintro e w' ⟨rfl, rfl⟩
   exact ⟨ov, rfl, by simpa [hm] using h, Met.refl _ _ _⟩
  ·refine (meet_new B L cv mv S ov od r w h hr hm hb).mono ?_
   rintro e w' ⟨ov', rfl, h1, h2, h3⟩
   refine ⟨ov', ?_, by simpa [hm] using h1, h2, h3⟩
   rw [List.idxOf_eq_length hm]
   rfl

end Go.Proofs.YtbcoejmiihgfoaaDoor

/-! Shape: what it computes, and its memory. -/
namespace Go.Proofs.YtbcoejmiihgfoaaDoor
open Go.RowKit

theorem map_upd {w w' : World} {P : Program} {k : TypeId} {R : Value → Option (DataW Nat × List MemPlace)} {b n : Nat} {D : DataW Nat} {T : List Nat} (h : w.ownsMap P k R b n D) (hu : Upd T w w') (hT : b ∉ T) : w'.ownsMap P k R b n D := by
 obtain ⟨es, clock, hb, F, hs, hD⟩ := h
 exact ⟨es, clock, hu.heap hb hT, F, hs, hD⟩

theorem Shp.upd {w w' : World} {B : Nat} {L : HL} {cv mv : Value} {S : Hp} {ov : Value} {od : List Int} {T : List Nat} (h : Shp w B L cv mv S ov od) (hu : Upd T w w') (hT : ∀ k ∈ T, B + 4 ≤ k ∧ ov.ownBlock ≠ some k) : Shp w' B L cv mv S ov od := by
 have hno : ∀ k, k < B + 4 → k ∉ T := fun k hk hm => by have := (hT k hm).1; omega
 obtain ⟨D, hD, hN⟩ := h.num
 exact ⟨h.hp.upd hu (fun i hi => hno i (by have := h.low i hi; omega)), hu.heap h.c0 (hno _ (by omega)), hu.heap h.c2 (hno _ (by omega)), hu.heap h.c3 (hno _ (by omega)), row_upd h.row hu (fun k hk hm => (hT k hm).2 hk), ⟨D, map_upd hD hu (hno _ (by omega)), hN⟩, h.low, h.nd, h.obj⟩

/-- An object that Shape hands out: its class, its values, the slice value, the block. -/
structure OP where
 c : Int
 xs : List Int
 v : Value
 b : Nat

def OP.o (p : OP) : Int × List Int := (p.c, p.xs)
def oflat (ps : List OP) : List Value := ps.flatMap fun p => [Value.int .i64 p.c, p.v]

theorem oflat_len (ps : List OP) : (oflat ps).length = ps.length * 2 := by
 induction ps with
 | nil => rfl
 | cons p t ih => simp only [oflat, List.flatMap_cons, List.length_append, List.length_cons, List.length_nil] at ih ⊢; omega

theorem oflat_snoc (ps : List OP) (p : OP) : oflat (ps ++ [p]) = oflat ps ++ [Value.int .i64 p.c, p.v] := by simp [oflat]

def Apart (a b : Value) : Prop := ∀ k, a.ownBlock = some k → b.ownBlock ≠ some k

/-- One object is told. -/
def Hp.valStep (S : Hp) (r : Int) (s : List Int × List Int) (i : Nat) : List Int × List Int :=
 if S.refB r i = true then (s.1 ++ [S.meetV s.2 (S.get r i)], S.meetO s.2 (S.get r i)) else (s.1 ++ [S.get r i], s.2)
def Hp.vals (S : Hp) (r : Int) (od : List Int) (n : Nat) : List Int × List Int := (List.range n).foldl (S.valStep r) ([], od)

theorem vals_succ (S : Hp) (r : Int) (od : List Int) (n : Nat) : S.vals r od (n + 1) = S.valStep r (S.vals r od n) n := by
 simp [Hp.vals, List.range_succ]

theorem vals_len (S : Hp) (r : Int) (od : List Int) (n : Nat) : (S.vals r od n).1.length = n := by
 induction n with
 | zero => rfl
 | succ n ih =>
  rw [vals_succ, Hp.valStep]
  split <;> simp [ih]

theorem meetO_mono (S : Hp) (od : List Int) (r : Int) : od.length ≤ (S.meetO od r).length := by
 unfold Hp.meetO; split <;> simp

theorem vals_mono (S : Hp) (r : Int) (od : List Int) (n : Nat) : od.length ≤ (S.vals r od n).2.length := by
 induction n with
 | zero => exact Nat.le_refl _
 | succ n ih =>
  rw [vals_succ, Hp.valStep]
  split
  ·exact Nat.le_trans ih (meetO_mono _ _ _)
  ·exact ih

/-- The objects' round. -/
def Hp.outStep (S : Hp) (s : List (Int × List Int) × List Int) : List (Int × List Int) × List Int :=
 if s.1.length < s.2.length then (s.1 ++ [(S.cls (s.2.getD s.1.length 0), (S.vals (s.2.getD s.1.length 0) s.2 (S.num (s.2.getD s.1.length 0)).toNat).1)], (S.vals (s.2.getD s.1.length 0) s.2 (S.num (s.2.getD s.1.length 0)).toNat).2) else s
def Hp.outN (S : Hp) : Nat → List (Int × List Int) × List Int → List (Int × List Int) × List Int
 | 0, s => s
 | n + 1, s => S.outStep (S.outN n s)

/-- The roots' round. -/
def Hp.rootStep (S : Hp) (s : List Int × List Int) (r : Int) : List Int × List Int := (s.1 ++ [S.meetV s.2 r], S.meetO s.2 r)
def Hp.roots (S : Hp) (rs : List Int) : List Int × List Int := rs.foldl S.rootStep ([], [])

theorem roots_take (S : Hp) (rs : List Int) (k : Nat) (h : k < rs.length) : S.roots (rs.take (k + 1)) = S.rootStep (S.roots (rs.take k)) (rs.getD k 0) := by
 have : rs.take (k + 1) = rs.take k ++ [rs.getD k 0] := by
  rw [List.take_add_one, List.getElem?_eq_getElem h, List.getD_eq_getElem?_getD, List.getElem?_eq_getElem h]; rfl
 rw [this]
 simp [Hp.roots]

theorem roots_len (S : Hp) (rs : List Int) : (S.roots rs).1.length = rs.length := by
 have : ∀ (rs : List Int) (s : List Int × List Int), (rs.foldl S.rootStep s).1.length = s.1.length + rs.length := by
  intro rs
  induction rs with
  | nil => intro s; simp
  | cons a t ih => intro s; rw [List.foldl_cons, ih]; simp [Hp.rootStep]; omega
 have h := this rs ([], [])
 unfold Hp.roots
 rw [h]
 simp

/-- What Shape answers: as many rounds as there may be objects. -/
def Hp.shape (S : Hp) (rs : List Int) : List (Int × List Int) × List Int := ((S.outN (S.A.length + 1) ([], (S.roots rs).2)).1, (S.roots rs).1)

theorem outN_stay (S : Hp) (s : List (Int × List Int) × List Int) (n m : Nat) (h : ¬ (S.outN n s).1.length < (S.outN n s).2.length) (hm : n ≤ m) : S.outN m s = S.outN n s := by
 obtain ⟨d, rfl⟩ : ∃ d, m = n + d := ⟨m - n, by omega⟩
 clear hm
 induction d with
 | zero => rfl
 | succ d ih =>
  show S.outStep (S.outN (n + d) s) = _
  rw [ih, Hp.outStep, if_neg h]

/-- The memory in the midst of Shape. -/
structure OutSt (w : World) (B : Nat) (L : HL) (cv mv : Value) (S : Hp) (ov : Value) (od : List Int) (av : Value) (ats : List Int) (uv : Value) (ps : List OP) : Prop where
 sh : Shp w B L cv mv S ov od
 ats : w.ownsRow (B + 4) 3 1 av ats.length (ats.map (Value.int .i64))
 out : w.ownsRow (B + 4) 51 2 uv ps.length (oflat ps)
 vals : ∀ p ∈ ps, IntsV w p.v p.b p.xs ∧ (p.xs = [] ∨ B + 4 ≤ p.b ∧ p.b < w.heap.size ∧ ov.ownBlock ≠ some p.b ∧ uv.ownBlock ≠ some p.b)
 d1 : Apart av ov
 d2 : Apart uv ov
 d3 : Apart uv av

/-- Blocks that are none of it. -/
def Free (B : Nat) (ov av uv : Value) (ps : List OP) (k : Nat) : Prop :=
 B + 4 ≤ k ∧ ov.ownBlock ≠ some k ∧ av.ownBlock ≠ some k ∧ uv.ownBlock ≠ some k ∧ ∀ p ∈ ps, p.xs = [] ∨ p.b ≠ k

theorem OutSt.upd {w w' : World} {B : Nat} {L : HL} {cv mv : Value} {S : Hp} {ov : Value} {od : List Int} {av : Value} {ats : List Int} {uv : Value} {ps : List OP} {T : List Nat} (h : OutSt w B L cv mv S ov od av ats uv ps) (hu : Upd T w w')
  (hT : ∀ k ∈ T, Free B ov av uv ps k) : OutSt w' B L cv mv S ov od av ats uv ps := by
 refine ⟨h.sh.upd hu (fun k hk => ⟨(hT k hk).1, (hT k hk).2.1⟩), row_upd h.ats hu (fun k hk hm => (hT k hm).2.2.1 hk), row_upd h.out hu (fun k hk hm => (hT k hm).2.2.2.1 hk), fun p hp => ?_, h.d1, h.d2, h.d3⟩
 obtain ⟨h1, h2⟩ := h.vals p hp
 refine ⟨h1.upd hu ?_, ?_⟩
 ·rcases h2 with h2 | h2
  ·exact .inl h2
  ·by_cases hx : p.xs = []
   ·exact .inl hx
   ·refine .inr (fun hm => ?_)
    rcases (hT _ hm).2.2.2.2 p hp with h3 | h3
    ·exact hx h3
    ·exact h3 rfl
 ·rcases h2 with h2 | ⟨h2, h3, h4⟩
  ·exact .inl h2
  ·exact .inr ⟨h2, Nat.lt_of_lt_of_le h3 hu.size, h4⟩

/-- Behind the closure. -/
theorem OutSt.met {w w' : World} {B : Nat} {L : HL} {cv mv : Value} {S : Hp} {ov ov' : Value} {od od' : List Int} {av : Value} {ats : List Int} {uv : Value} {ps : List OP} (h : OutSt w B L cv mv S ov od av ats uv ps)
  (hs : Shp w' B L cv mv S ov' od') (hm : Met B ov ov' w w') : OutSt w' B L cv mv S ov' od' av ats uv ps := by
 obtain ⟨hu, ho⟩ := hm
 have hav := h.ats.lt
 have huv := h.out.lt
 have hin : ∀ k, B + 4 ≤ k → ov.ownBlock ≠ some k → k ∉ [B + 1, B + 3] ++ ov.ownBlock.toList := by
  intro k h1 h2 h3
  simp only [List.mem_append, List.mem_cons, List.not_mem_nil, or_false, Option.mem_toList] at h3
  rcases h3 with (h3 | h3) | h3
  ·omega
  ·omega
  ·exact h2 h3
 have hnew : ∀ k, k < w.heap.size → ov.ownBlock ≠ some k → ov'.ownBlock ≠ some k := by
  intro k h1 h2 h3
  rcases ho with ho | ⟨j, hj, hj2⟩
  ·exact h2 (ho ▸ h3)
  ·rw [hj] at h3; injection h3 with h3; omega
 refine ⟨hs, row_upd h.ats hu (fun k hk => hin k (hav k hk).1 (h.d1 k hk)), row_upd h.out hu (fun k hk => hin k (huv k hk).1 (h.d2 k hk)), fun p hp => ?_, fun k hk => hnew k (hav k hk).2 (h.d1 k hk), fun k hk => hnew k (huv k hk).2 (h.d2 k hk), h.d3⟩
 obtain ⟨h1, h2⟩ := h.vals p hp
 rcases h2 with h2 | ⟨h2, h3, h4, h5⟩
 ·exact ⟨h1.upd hu (.inl h2), .inl h2⟩
 ·exact ⟨h1.upd hu (.inr (hin _ h2 h4)), .inr ⟨h2, Nat.lt_of_lt_of_le h3 hu.size, hnew _ h3 h4, h5⟩⟩

/-- The output is grown by one object whose values' block is known. -/
theorem OutSt.push {w w' : World} {B : Nat} {L : HL} {cv mv : Value} {S : Hp} {ov : Value} {od : List Int} {av : Value} {ats : List Int} {uv uv' : Value} {ps : List OP} (h : OutSt w B L cv mv S ov od av ats uv ps)
  (q : OP) (hq : IntsV w q.v q.b q.xs) (hqb : q.xs = [] ∨ B + 4 ≤ q.b ∧ q.b < w.heap.size ∧ ov.ownBlock ≠ some q.b ∧ uv.ownBlock ≠ some q.b)
  (hrow : w'.ownsRow (B + 4) 51 2 uv' (ps.length + 1) (oflat ps ++ [Value.int .i64 q.c, q.v])) (hg : w.grownBy w' uv.ownBlock) (hat : uv'.ownBlock = uv.ownBlock ∨ uv'.ownBlock = some w.heap.size) :
  OutSt w' B L cv mv S ov od av ats uv' (ps ++ [q]) := by
 have hu : Upd uv.ownBlock.toList w w' := (Upd.refl _ w).grown hg (fun k hk => Or.inl (Option.mem_toList.2 hk))
 have huv := h.out.lt
 have hav := h.ats.lt
 have hov := h.sh.row.lt
 have hne : ∀ k, k < w.heap.size → uv.ownBlock ≠ some k → uv'.ownBlock ≠ some k := by
  intro k h1 h2 h3
  rcases hat with ho | ho
  ·exact h2 (ho ▸ h3)
  ·rw [ho] at h3; injection h3 with h3; omega
 have hap : ∀ (x : Value) , (∀ k, x.ownBlock = some k → k < w.heap.size) → Apart uv x → Apart uv' x := by
  intro x hx ha k hk hk2
  have h1 := hx k hk2
  exact hne k h1 (fun e => ha k e hk2) hk
 refine ⟨h.sh.upd hu (fun k hk => ?_), row_upd h.ats hu (fun k hk hm => ?_), ?_, fun p hp => ?_, h.d1, hap _ (fun k hk => (hov k hk).2) h.d2, hap _ (fun k hk => (hav k hk).2) h.d3⟩
 ·have hk' := Option.mem_toList.1 hk
  exact ⟨(huv k hk').1, fun e => h.d2 k hk' e⟩
 ·exact h.d3 k (Option.mem_toList.1 hm) hk
 ·rw [oflat_snoc, List.length_append]
  exact hrow
 ·rcases List.mem_append.1 hp with hp | hp
  ·obtain ⟨h1, h2⟩ := h.vals p hp
   rcases h2 with h2 | ⟨h2, h3, h4, h5⟩
   ·exact ⟨h1.upd hu (.inl h2), .inl h2⟩
   ·exact ⟨h1.upd hu (.inr (fun hm => h5 (Option.mem_toList.1 hm))), .inr ⟨h2, Nat.lt_of_lt_of_le h3 hu.size, h4, hne _ h3 h5⟩⟩
  ·simp only [List.mem_singleton] at hp
   subst hp
   rcases hqb with h2 | ⟨h2, h3, h4, h5⟩
   ·exact ⟨hq.upd hu (.inl h2), .inl h2⟩
   ·exact ⟨hq.upd hu (.inr (fun hm => h5 (Option.mem_toList.1 hm))), .inr ⟨h2, Nat.lt_of_lt_of_le h3 hu.size, h4, hne _ h3 h5⟩⟩

/-- The memory in the midst of one object: its box, its values' row. -/
structure ObSt (w : World) (B : Nat) (L : HL) (cv mv : Value) (S : Hp) (ov : Value) (od : List Int) (av : Value) (ats : List Int) (uv : Value) (ps : List OP) (ob : Nat) (c : Int) (vv : Value) (xs : List Int) : Prop where
 st : OutSt w B L cv mv S ov od av ats uv ps
 box : w.heap[ob]? = some (.cells #[.int .i64 c, vv] 51)
 row : w.ownsRow (B + 4) 2 1 vv xs.length (xs.map (Value.int .i64))
 fb : Free B ov av uv ps ob
 fv : ∀ k, vv.ownBlock = some k → Free B ov av uv ps k ∧ k ≠ ob

theorem Free.met {w w' : World} {B : Nat} {ov ov' av uv : Value} {ps : List OP} {k : Nat} (h : Free B ov av uv ps k) (hk : k < w.heap.size) (hm : Met B ov ov' w w') : Free B ov' av uv ps k := by
 refine ⟨h.1, ?_, h.2.2.1, h.2.2.2.1, h.2.2.2.2⟩
 rcases hm.2 with ho | ⟨j, hj, hj2⟩
 ·rw [ho]; exact h.2.1
 ·rw [hj]; intro e; injection e with e; omega

theorem Free.notin {B : Nat} {ov av uv : Value} {ps : List OP} {k : Nat} (h : Free B ov av uv ps k) : k ∉ [B + 1, B + 3] ++ ov.ownBlock.toList := by
 intro h3
 simp only [List.mem_append, List.mem_cons, List.not_mem_nil, or_false, Option.mem_toList] at h3
 rcases h3 with (h3 | h3) | h3
 ·have := h.1; omega
 ·have := h.1; omega
 ·exact h.2.1 h3

theorem ObSt.met {w w' : World} {B : Nat} {L : HL} {cv mv : Value} {S : Hp} {ov ov' : Value} {od od' : List Int} {av : Value} {ats : List Int} {uv : Value} {ps : List OP} {ob : Nat} {c : Int} {vv : Value} {xs : List Int} (h : ObSt w B L cv mv S ov od av ats uv ps ob c vv xs)
  (hs : Shp w' B L cv mv S ov' od') (hm : Met B ov ov' w w') : ObSt w' B L cv mv S ov' od' av ats uv ps ob c vv xs :=
 ⟨h.st.met hs hm, hm.1.heap h.box h.fb.notin, row_upd h.row hm.1 (fun k hk => (h.fv k hk).1.notin), h.fb.met (lt_of_heap h.box) hm, fun k hk => ⟨(h.fv k hk).1.met (h.row.lt k hk).2 hm, (h.fv k hk).2⟩⟩

/-- One value more. -/
theorem ObSt.push {w w' : World} {B : Nat} {L : HL} {cv mv : Value} {S : Hp} {ov : Value} {od : List Int} {av : Value} {ats : List Int} {uv : Value} {ps : List OP} {ob : Nat} {c : Int} {vv vv' : Value} {xs : List Int} (h : ObSt w B L cv mv S ov od av ats uv ps ob c vv xs)
  (x : Int) (hrow : w'.ownsRow (B + 4) 2 1 vv' (xs.length + 1) (xs.map (Value.int .i64) ++ [.int .i64 x])) (hg : w.grownBy w' vv.ownBlock) (hat : vv'.ownBlock = vv.ownBlock ∨ vv'.ownBlock = some w.heap.size) :
  ObSt (w'.setCell ⟨ob, 1, none⟩ vv') B L cv mv S ov od av ats uv ps ob c vv' (xs ++ [x]) := by
 have hu : Upd vv.ownBlock.toList w w' := (Upd.refl _ w).grown hg (fun k hk => Or.inl (Option.mem_toList.2 hk))
 have hnew : Free B ov av uv ps w.heap.size := by
  refine ⟨?_, ?_, ?_, ?_, fun p hp => ?_⟩
  ·have := lt_of_heap h.st.sh.c3; omega
  ·intro e; have := (h.st.sh.row.lt _ e).2; omega
  ·intro e; have := (h.st.ats.lt _ e).2; omega
  ·intro e; have := (h.st.out.lt _ e).2; omega
  ·rcases (h.st.vals p hp).2 with h1 | h1
   ·exact .inl h1
   ·exact .inr (by omega)
 have hbox := hu.heap h.box (fun hm => (h.fv _ (Option.mem_toList.1 hm)).2 rfl)
 have hu2 : Upd [ob] w' (w'.setCell ⟨ob, 1, none⟩ vv') := (Upd.refl _ _).setCell (Or.inl (by simp)) _
 have hst := (h.st.upd hu (fun k hk => (h.fv k (Option.mem_toList.1 hk)).1)).upd hu2 (fun k hk => by simp at hk; subst hk; exact h.fb)
 have hbs := lt_of_heap h.box
 have hfv : ∀ k, vv'.ownBlock = some k → Free B ov av uv ps k ∧ k ≠ ob := by
  intro k hk
  rcases hat with ho | ho
  ·exact h.fv k (ho ▸ hk)
  ·rw [ho] at hk
   injection hk with hk
   subst hk
   exact ⟨hnew, by omega⟩
 refine ⟨hst, ?_, ?_, h.fb, hfv⟩
 ·have := heap_setCell hbox 1 vv'
  simpa using this
 ·have h1 := row_upd hrow hu2 (fun k hk hm => by simp at hm; exact (hfv k hk).2 hm)
  simpa using h1

theorem OutSt.fresh {w : World} {B : Nat} {L : HL} {cv mv : Value} {S : Hp} {ov : Value} {od : List Int} {av : Value} {ats : List Int} {uv : Value} {ps : List OP} (h : OutSt w B L cv mv S ov od av ats uv ps) : Free B ov av uv ps w.heap.size := by
 refine ⟨?_, ?_, ?_, ?_, fun p hp => ?_⟩
 ·have := lt_of_heap h.sh.c3; omega
 ·intro e; have := (h.sh.row.lt _ e).2; omega
 ·intro e; have := (h.ats.lt _ e).2; omega
 ·intro e; have := (h.out.lt _ e).2; omega
 ·rcases (h.vals p hp).2 with h1 | h1
  ·exact .inl h1
  ·exact .inr (by omega)

theorem ObSt.begin {w : World} {B : Nat} {L : HL} {cv mv : Value} {S : Hp} {ov : Value} {od : List Int} {av : Value} {ats : List Int} {uv : Value} {ps : List OP} (h : OutSt w B L cv mv S ov od av ats uv ps) (c : Int) :
  ObSt (w.alloc (.cells #[.int .i64 c, .slice none 0 0] 51)) B L cv mv S ov od av ats uv ps w.heap.size c (.slice none 0 0) [] :=
 ⟨h.upd ((Upd.refl [] w).alloc _) (by simp), heap_alloc_new w _, World.ownsRow_nil _ _ _ _, h.fresh, fun k hk => by simp [Value.ownBlock] at hk⟩

theorem ObSt.upd0 {w w' : World} {B : Nat} {L : HL} {cv mv : Value} {S : Hp} {ov : Value} {od : List Int} {av : Value} {ats : List Int} {uv : Value} {ps : List OP} {ob : Nat} {c : Int} {vv : Value} {xs : List Int} (h : ObSt w B L cv mv S ov od av ats uv ps ob c vv xs) (hu : Upd [] w w') :
  ObSt w' B L cv mv S ov od av ats uv ps ob c vv xs :=
 ⟨h.st.upd hu (by simp), hu.heap h.box (by simp), row_upd h.row hu (by simp), h.fb, h.fv⟩

theorem ObSt.form {w : World} {B : Nat} {L : HL} {cv mv : Value} {S : Hp} {ov : Value} {od : List Int} {av : Value} {ats : List Int} {uv : Value} {ps : List OP} {ob : Nat} {c : Int} {vv : Value} {xs : List Int} (h : ObSt w B L cv mv S ov od av ats uv ps ob c vv xs) : ∃ q c', vv = .slice q xs.length c' := by
 rcases h.row.2 with ⟨h1, h2⟩ | ⟨g, c, _, h1, _⟩
 ·exact ⟨none, 0, by rw [h1, h2]⟩
 ·exact ⟨_, c, h1⟩

/-- The finished object. -/
theorem ObSt.op {w : World} {B : Nat} {L : HL} {cv mv : Value} {S : Hp} {ov : Value} {od : List Int} {av : Value} {ats : List Int} {uv : Value} {ps : List OP} {ob : Nat} {c : Int} {vv : Value} {xs : List Int} (h : ObSt w B L cv mv S ov od av ats uv ps ob c vv xs) :
  ∃ b, IntsV w vv b xs ∧ (xs = [] ∨ B + 4 ≤ b ∧ b < w.heap.size ∧ ov.ownBlock ≠ some b ∧ uv.ownBlock ≠ some b) := by
 obtain ⟨b, h1, h2⟩ := IntsV.of_row h.row
 refine ⟨b, h1, ?_⟩
 rcases h2 with h2 | h2
 ·exact .inl h2
 ·have h3 := (h.fv b h2).1
  exact .inr ⟨h3.1, (h.row.lt b h2).2, h3.2.1, h3.2.2.2.1⟩

end Go.Proofs.YtbcoejmiihgfoaaDoor

/-! Shape: the walk. -/
namespace Go.Proofs.YtbcoejmiihgfoaaDoor
open Go.RowKit

/-- References are 64 bits wide. -/
def Hp.Rng (S : Hp) : Prop := ∀ r i, S.refB r i = true → -9223372036854775808 ≤ S.get r i ∧ S.get r i ≤ 9223372036854775807

theorem cells3 {w : World} {L : HL} {cv mv : Value} {S : Hp} (h : HpAt w L cv mv S) (hlow : ∀ i ∈ L.all, i < w.heap.size) :
  Shp ((((w.alloc (.cells #[.pointer (some ⟨L.hb, 0, none⟩)] 33)).alloc (.map #[] 0)).alloc (.cells #[.map (some (w.heap.size + 1))] 99)).alloc (.cells #[.slice none 0 0] 29)) w.heap.size L cv mv S (.slice none 0 0) [] := by
 have hu : Upd [] w ((((w.alloc (.cells #[.pointer (some ⟨L.hb, 0, none⟩)] 33)).alloc (.map #[] 0)).alloc (.cells #[.map (some (w.heap.size + 1))] 99)).alloc (.cells #[.slice none 0 0] 29)) := ((((Upd.refl _ w).alloc _).alloc _).alloc _).alloc _
 refine ⟨h.upd0 hu, ?_, ?_, ?_, World.ownsRow_nil _ _ _ _, ⟨.map [], ?_, NumD.nil⟩, hlow, by simp, by simp⟩
 ·exact ((((Upd.refl [] (w.alloc (.cells #[.pointer (some ⟨L.hb, 0, none⟩)] 33))).alloc (.map #[] 0)).alloc (.cells #[.map (some (w.heap.size + 1))] 99)).alloc (.cells #[.slice none 0 0] 29)).heap (heap_alloc_new w _) (by simp)
 ·have h1 := (((Upd.refl [] (((w.alloc (.cells #[.pointer (some ⟨L.hb, 0, none⟩)] 33)).alloc (.map #[] 0)).alloc (.cells #[.map (some (w.heap.size + 1))] 99))).alloc (.cells #[.slice none 0 0] 29))).heap (heap_alloc_new ((w.alloc (.cells #[.pointer (some ⟨L.hb, 0, none⟩)] 33)).alloc (.map #[] 0)) _) (by simp)
  simpa using h1
 ·have h1 := heap_alloc_new (((w.alloc (.cells #[.pointer (some ⟨L.hb, 0, none⟩)] 33)).alloc (.map #[] 0)).alloc (.cells #[.map (some (w.heap.size + 1))] 99)) (.cells #[.slice none 0 0] 29)
  simpa using h1
 ·have h1 := World.ownsMap_made (H := Nat) (w.alloc (.cells #[.pointer (some ⟨L.hb, 0, none⟩)] 33)) Tryd.prog 3 (plainElem Tryd.prog 3)
  have h2 := (h1.alloc (.cells #[.map (some (w.heap.size + 1))] 99)).alloc (.cells #[.slice none 0 0] 29)
  simpa using h2

theorem Met.top {w0 w w' : World} {B : Nat} {L : HL} {cv mv : Value} {S : Hp} {ov ov' : Value} {od : List Int} (hm : Met B ov ov' w w') (h : Shp w B L cv mv S ov od) (hu : Upd [] w0 w) (hB : w0.heap.size ≤ B) : Upd [] w0 w' :=
 hu.trans' hm.1 (fun i hi hlt => by
  simp only [List.mem_append, List.mem_cons, List.not_mem_nil, or_false, Option.mem_toList] at hi
  rcases hi with (h3 | h3) | h3
  ·omega
  ·omega
  ·have := (h.row.lt i h3).1; omega)

theorem Shp.word {w : World} {B : Nat} {L : HL} {cv mv : Value} {S : Hp} {q : Option Addr} {n oc : Nat} {od : List Int} (h : Shp w B L cv mv S (.slice q n oc) od) (k : Nat) (hk : k < od.length) : ∃ g, q = some ⟨g, 0, none⟩ ∧ w.cell? ⟨g, k, none⟩ = some (.int .i64 (od.getD k 0)) := by
 rcases h.row.2 with ⟨_, h2⟩ | ⟨g, c, _, h1, _⟩
 ·omega
 ·injection h1 with h1 _ _
  refine ⟨g, h1, ?_⟩
  have h3 := h.row.cells (g := g) (by rw [h1]; rfl) k (.int .i64 (od.getD k 0)) (by
   rw [List.getElem?_map, List.getElem?_eq_getElem hk, List.getD_eq_getElem?_getD, List.getElem?_eq_getElem hk]; rfl)
  rwa [Addr.add_lit, Nat.zero_add] at h3

theorem Tryd.infoObj : (Tryd.prog.info? 51).map (fun i => (i.zero, i.size, i.bytes)) = some (some (.agg #[.int .i64 0, .slice none 0 0]), 2, 32) := by kernel_rfl

set_option maxRecDepth 100000 in
set_option maxHeartbeats 2000000 in
theorem shape_any (L : HL) (cv mv : Value) (S : Hp) (p : Option Addr) (cap rb : Nat) (rs : List Int) (w : World) (h : HpAt w L cv mv S) (hlow : ∀ i ∈ L.all, i < w.heap.size) (hrng : S.Rng) (hn : rs.length ≤ 100000)
  (hp : rs = [] ∨ p = some ⟨rb, 0, none⟩) (hr : ∀ i, i < rs.length → w.cell? ⟨rb, i, none⟩ = some (.int .i64 (rs.getD i 0))) (hrr : ∀ r ∈ rs, -9223372036854775808 ≤ r ∧ r ≤ 9223372036854775807) :
  Calls Tryd.prog 22 #[.pointer (some ⟨L.hb, 0, none⟩), .slice p rs.length cap] w fun e w' => ∃ uv av ps ov od, e = .returned (.tuple #[uv, av]) ∧ OutSt w' w.heap.size L cv mv S ov od av (S.shape rs).2 uv ps ∧ ps.map OP.o = (S.shape rs).1 ∧ Upd [] w w' := by
 have HR := Lib.hid hr
 have HRR := Lib.hid hrr
 have HL' := Lib.hid hlow
 have HG := Lib.hid hrng
 have hmf : ∀ (fn : Fn) (first cap : Array Value) (w : World), (Instr.makeFunc fn first cap).run Tryd.prog w = .ok (.func fn first cap) w := fun _ _ _ _ => rfl
 clear hr hrr hlow hrng
 obtain ⟨i0, hi, hz0, hz1, hz2⟩ := info_parts Tryd.infoInt
 have HI := Lib.hid hi
 have HZ0 := Lib.hid hz0
 have HZ1 := Lib.hid hz1
 have HZ2 := Lib.hid hz2
 clear hi hz0 hz1 hz2
 obtain ⟨i1, hi, hz0, hz1, hz2⟩ := info_parts Tryd.infoLong
 have JI := Lib.hid hi
 have JZ0 := Lib.hid hz0
 have JZ1 := Lib.hid hz1
 have JZ2 := Lib.hid hz2
 clear hi hz0 hz1 hz2
 obtain ⟨i2, hi, hz0, hz1, hz2⟩ := info_parts Tryd.infoObj
 have KI := Lib.hid hi
 have KZ0 := Lib.hid hz0
 have KZ1 := Lib.hid hz1
 have KZ2 := Lib.hid hz2
 clear hi hz0 hz1 hz2
 have hmk := fun w => run_makeMap (P := Tryd.prog) 99 w
 go_enter Tryd.func22, Tryd.ntmps22
 go_wp2_with fail
 go_loopw [9, 26] (fun a i wr => ∃ (k : Nat) (ov : Value), k ≤ rs.length ∧ i = .int .i64 k ∧ Shp wr w.heap.size L cv mv S ov (S.roots (rs.take k)).2 ∧ wr.ownsRow (w.heap.size + 4) 3 1 a k ((S.roots (rs.take k)).1.map (Value.int .i64)) ∧ Apart a ov ∧ Upd [] w wr) (fun _ i _ => rs.length - (intOf i).toNat)
 case atStart =>
  refine ⟨0, .slice none 0 0, by omega, rfl, cells3 h HL'.out, World.ownsRow_nil _ _ _ _, (fun k hk => by simp [Value.ownBlock] at hk : Apart (.slice none 0 0) (.slice none 0 0)), ((((Upd.refl _ w).alloc _).alloc _).alloc _).alloc _⟩
 case round =>
  obtain ⟨k, ov, hk, rfl, hsh, hown, hap, hU⟩ := hrel
  by_cases hlt : k < rs.length
  ·have hpp : p = some ⟨rb, 0, none⟩ := by
    rcases hp with h1 | h1
    ·rw [h1] at hlt; simp at hlt
    ·exact h1
   subst hpp
   have hx := hU.cell (HR.out k hlt) (by simp)
   have HX := Lib.hid (HRR.out (rs.getD k 0) (by rw [List.getD_eq_getElem?_getD, List.getElem?_eq_getElem hlt]; exact List.getElem_mem hlt))
   have HT := Lib.hid (roots_take S rs k hlt)
   generalize rs.getD k 0 = x at hx HX HT
   obtain ⟨wo, rfl⟩ : ∃ wo : World, wo = wr := ⟨_, rfl⟩
   go_wp2_with fail
   refine (meet_any w.heap.size L cv mv S ov _ x wo hsh HX.out).mono ?_
   rintro e w1 ⟨ov1, rfl, hsh1, hmet⟩
   have hown1 := row_upd hown hmet.1 (fun q hq hm => by
    have h1 := (hown.lt q hq).1
    simp only [List.mem_append, List.mem_cons, List.not_mem_nil, or_false, Option.mem_toList] at hm
    rcases hm with (h3 | h3) | h3
    ·omega
    ·omega
    ·exact hap q hq h3)
   have hs1 := hmet.1.size
   have hsB := lt_of_heap hsh1.c3
   go_wp2_with (at_builtin; refine stop_here ?_)
   refine Hid.mk ?_
   refine (wpList_append_own_at _ rfl _ _ 29 rfl (w.heap.size + 4) 3 i0 (.int .i64 0) 1 8 Tryd.underlying29 HI.out HZ0.out HZ1.out HZ2.out rfl (by decide) _ _ _ rfl (hown1.alloc _) ⟨w1.heap.size, 0, none⟩ 1 1 [.int .i64 (S.meetV (S.roots (rs.take k)).2 x)] rfl rfl ?c1 ?c2 ?c3 ?c4 ?c5 ?c6)
   case c1 => exact cell_one_new _ _ _
   case c2 => simp [Value.oneCell']
   case c3 => unfold maxLen; omega
   case c4 => omega
   case c5 => simp; omega
   case c6 =>
    intro v' w6 hown' hgrow _ hat
    have hu6 : Upd u9.ownBlock.toList w1 w6 := ((Upd.refl _ w1).alloc _).grown hgrow (fun q hq => Or.inl (Option.mem_toList.2 hq))
    have hsh6 := hsh1.upd hu6 (fun q hq => by
     have h1 := Option.mem_toList.1 hq
     refine ⟨(hown.lt q h1).1, ?_⟩
     have h2 := (hown.lt q h1).2
     rcases hmet.2 with h3 | ⟨j, h3, h4⟩
     ·rw [h3]; exact hap q h1
     ·rw [h3]; intro e; injection e with e; omega)
    have hap6 : Apart v' ov1 := by
     intro q hq
     have hov := hsh1.row.lt
     rcases hat with h3 | h3
     ·have hq' : u9.ownBlock = some q := h3 ▸ hq
      rcases hmet.2 with h5 | ⟨j, h5, h6⟩
      ·rw [h5]; exact hap q hq'
      ·rw [h5]; intro e; injection e with e; have := (hown.lt q hq').2; omega
     ·rw [h3] at hq
      injection hq with hq
      intro e
      have := (hov q e).2
      simp at hq
      omega
    have hU6 : Upd [] w w6 := (hmet.top hsh hU (Nat.le_refl _)).trans' hu6 (fun i hi hlt => by
     have h1 := (hown.lt i (Option.mem_toList.1 hi)).1
     omega)
    have HO := Lib.hid hown'
    clear hown' hgrow hat
    go_wp2_with fail
    go_roundw
    case rel =>
     refine ⟨k + 1, ov1, by omega, by go_num, ?_, ?_, hap6, hU6⟩
     ·rw [HT.out]
      exact hsh6
     ·rw [HT.out]
      have := HO.out
      simpa [Hp.rootStep] using this
    case measure => simp [intOf]; omega
  ·obtain rfl : k = rs.length := by omega
   rw [List.take_length] at hsh hown
   have HOW := Lib.hid hown
   have HSH := Lib.hid hsh
   clear hown hsh
   obtain ⟨wo, rfl⟩ : ∃ wo : World, wo = wr := ⟨_, rfl⟩
   go_wp2_with fail
   go_loopw [12, 13] (fun u i wr => ∃ (k : Nat) (ov : Value) (od : List Int) (ps : List OP), i = .int .i64 k ∧ OutSt wr w.heap.size L cv mv S ov od u9 (S.roots rs).1 u ps ∧ Upd [] w wr ∧ Hid (S.outN k ([], (S.roots rs).2) = (ps.map OP.o, od) ∧ ps.length = k ∧ k ≤ od.length)) (fun _ i _ => S.A.length + 1 - (intOf i).toNat)
   case atStart =>
    refine ⟨0, ov, (S.roots rs).2, [], rfl, ⟨HSH.out, ?_, World.ownsRow_nil _ _ _ _, by simp, hap, (fun k hk => by simp [Value.ownBlock] at hk : Apart (.slice none 0 0) _), (fun k hk => by simp [Value.ownBlock] at hk : Apart (.slice none 0 0) _)⟩, hU, ⟨rfl, rfl, Nat.zero_le _⟩⟩
    rw [roots_len]
    exact HOW.out
   case round =>
    obtain ⟨k, ov2, od, ps, rfl, hst, hU2, HK⟩ := hrel
    have hfew := hst.sh.few
    have hA := hst.sh.hp.ok.len
    obtain ⟨q, oc, rfl⟩ := hst.sh.form
    have hc0 := cell_of hst.sh.c0 0
    have hc3 := cell_of hst.sh.c3 0
    by_cases hlt : k < od.length
    ·obtain ⟨g, rfl, hxk⟩ := hst.sh.word k hlt
     have hobj := hst.sh.obj (od.getD k 0) (by rw [List.getD_eq_getElem?_getD, List.getElem?_eq_getElem hlt]; exact List.getElem_mem hlt)
     have HST : Hid (S.outStep (ps.map OP.o, od) = (ps.map OP.o ++ [(S.cls (od.getD k 0), (S.vals (od.getD k 0) od (S.num (od.getD k 0)).toNat).1)], (S.vals (od.getD k 0) od (S.num (od.getD k 0)).toNat).2)) := by
      have e1 : (ps.map OP.o).length = k := by rw [List.length_map]; exact HK.out.2.1
      show S.outStep _ = _
      unfold Hp.outStep
      simp only [e1]
      rw [if_pos hlt]
     obtain ⟨hr1, hr2, hr3, hr4, hr5, hr6⟩ := hst.sh.hp.ok.le hobj
     generalize od.getD k 0 = r at hxk hobj HST hr1 hr2 hr3 hr4 hr5 hr6
     have HOB := Lib.hid hobj
     clear hobj
     have hhp := hst.sh.hp
     obtain ⟨wo2, rfl⟩ : ∃ wo2 : World, wo2 = wr := ⟨_, rfl⟩
     go_wp2_with fail
     refine (is_yes _ _ _ _ _ _ hhp HOB.out).mono ?_
     rintro e w' ⟨rfl, rfl⟩
     obtain ⟨n, hn1⟩ : ∃ n : Nat, S.num r = (n : Int) := ⟨(S.num r).toNat, by omega⟩
     rw [hn1] at HST ⊢
     rw [Int.toNat_natCast] at HST
     go_wp2_with fail
     have hob := ObSt.begin hst (S.cls r)
     go_loopw [57] (fun i wr => ∃ (j : Nat) (ov : Value) (od1 : List Int) (vv : Value) (xs : List Int), j ≤ n ∧ i = .int .i64 j ∧ ObSt wr w.heap.size L cv mv S ov od1 u9 (S.roots rs).1 u12 ps wo2.heap.size (S.cls r) vv xs ∧ Upd [] w wr ∧ Hid (S.vals r od j = (xs, od1) ∧ xs.length = j)) (fun i _ => n - (intOf i).toNat)
     case atStart => exact ⟨0, _, _, _, _, by omega, rfl, hob, hU2.alloc _, ⟨rfl, rfl⟩⟩
     case round =>
      clear hob
      obtain ⟨j, ov3, od3, vv, xs, hj, rfl, ho, hU3, HV⟩ := hrel
      have hc0 := cell_of ho.st.sh.c0 0
      have hhp := ho.st.sh.hp
      obtain ⟨wo3, rfl⟩ : ∃ wo3 : World, wo3 = wr := ⟨_, rfl⟩
      by_cases hjl : j < n
      ·have HVS := Lib.hid (vals_succ S r od j)
       have hget := get_yes L cv mv S r (j : Int) wo3 hhp HOB.out (by omega) (by omega)
       have href := ref_some L cv mv S r (j : Int) wo3 hhp HOB.out (by omega) (by omega)
       cases hrf : S.refB r (j : Int) with
       | true =>
        have HX := Lib.hid (HG.out r j hrf)
        have HRF := Lib.hid hrf
        rw [hrf] at href
        clear hrf
        generalize hx : S.get r (j : Int) = x at hget HX
        have HXE := Lib.hid hx
        clear hx
        go_wp2_with fail
        refine hget.mono ?_
        rintro e w' ⟨rfl, rfl⟩
        go_wp2_with fail
        refine href.mono ?_
        rintro e w' ⟨rfl, rfl⟩
        go_wp2_with fail
        refine (meet_any w.heap.size L cv mv S ov3 od3 x wo3 ho.st.sh HX.out).mono ?_
        rintro e w1 ⟨ov1, rfl, hsh1, hmet⟩
        have ho1 := ho.met hsh1 hmet
        obtain ⟨vq, vc, rfl⟩ := ho1.form
        have hbx := cell_of ho1.box 1
        have hfx := froz_of ho1.box 1
        go_wp2_with (at_builtin; refine stop_here ?_)
        refine Hid.mk ?_
        have hoA := ho1.upd0 ((Upd.refl [] w1).alloc (.cells #[.int .i64 (S.meetV od3 x)] 2))
        have hsB := lt_of_heap ho1.st.sh.c3
        refine (wpList_append_own_at _ rfl _ _ 49 rfl (w.heap.size + 4) 2 i1 (.int .i64 0) 1 8 Tryd.underlying49 JI.out JZ0.out JZ1.out JZ2.out rfl (by decide) _ _ _ rfl hoA.row ⟨w1.heap.size, 0, none⟩ 1 1 [.int .i64 (S.meetV od3 x)] rfl rfl ?c1 ?c2 ?c3 ?c4 ?c5 ?c6)
        case c1 => exact cell_one_new _ _ _
        case c2 => simp [Value.oneCell']
        case c3 => have hxl := HV.out.2; unfold maxLen; omega
        case c4 => have hxl := HV.out.2; omega
        case c5 => simp; omega
        case c6 =>
         intro v' w6 hown' hgrow _ hat
         have hno : ∀ q', Value.ownBlock (.slice vq xs.length vc) = some q' → q' ≠ wo2.heap.size := fun q' hq => (ho1.fv q' hq).2
         have hbox6 : w6.heap[wo2.heap.size]? = some (.cells #[.int .i64 (S.cls r), .slice vq xs.length vc] 51) := ((Upd.refl (Value.ownBlock (.slice vq xs.length vc)).toList _).grown hgrow (fun q' hq => Or.inl (Option.mem_toList.2 hq))).heap hoA.box (fun hm => hno _ (Option.mem_toList.1 hm) rfl)
         have hb6 := cell_of hbox6 1
         have hf6 := froz_of hbox6 1
         obtain ⟨g', c', hv'⟩ : ∃ g' c', v' = .slice (some ⟨g', 0, none⟩) (xs.length + 1) c' := by
          rcases hown'.2 with ⟨_, hz⟩ | ⟨g', c', _, hv, _⟩
          ·omega
          ·exact ⟨g', c', hv⟩
         subst hv'
         have hob6 := hoA.push (S.meetV od3 x) hown' hgrow hat
         have hU6 : Upd [] w (w6.setCell ⟨wo2.heap.size, 1, none⟩ (.slice (some ⟨g', 0, none⟩) (xs.length + 1) c')) := (((hmet.top ho.st.sh hU3 (Nat.le_refl _)).alloc _).grown hgrow (fun q' hq => Or.inr (by have := (ho1.row.lt q' hq).1; omega))).setCell (Or.inr (Nat.le_trans (Nat.le_add_right _ 4) ho1.fb.1)) _
         clear hown' hgrow hat
         have HB6 := Lib.hid hob6
         clear hob6 hoA
         go_wp2_with fail
         go_roundw
         case rel =>
          refine ⟨j + 1, ov1, (S.meetO od3 x), _, xs ++ [(S.meetV od3 x)], by omega, by go_num, HB6.out, hU6, ⟨?_, by simp [HV.out.2]⟩⟩
          rw [HVS.out, Hp.valStep, HV.out.1, HRF.out, HXE.out]
          rfl
         case measure => simp [intOf]; omega
       | false =>
        have HRF := Lib.hid hrf
        rw [hrf] at href
        clear hrf
        generalize hx : S.get r (j : Int) = x at hget
        have HXE := Lib.hid hx
        clear hx
        go_wp2_with fail
        refine hget.mono ?_
        rintro e w' ⟨rfl, rfl⟩
        go_wp2_with fail
        refine href.mono ?_
        rintro e w' ⟨rfl, rfl⟩
        obtain ⟨vq, vc, rfl⟩ := ho.form
        have hbx := cell_of ho.box 1
        have hfx := froz_of ho.box 1
        go_wp2_with (at_builtin; refine stop_here ?_)
        refine Hid.mk ?_
        have hoA := ho.upd0 ((Upd.refl [] wo3).alloc (.cells #[.int .i64 x] 2))
        have hsB := lt_of_heap ho.st.sh.c3
        refine (wpList_append_own_at _ rfl _ _ 49 rfl (w.heap.size + 4) 2 i1 (.int .i64 0) 1 8 Tryd.underlying49 JI.out JZ0.out JZ1.out JZ2.out rfl (by decide) _ _ _ rfl hoA.row ⟨wo3.heap.size, 0, none⟩ 1 1 [.int .i64 x] rfl rfl ?c1 ?c2 ?c3 ?c4 ?c5 ?c6)
        case c1 => exact cell_one_new _ _ _
        case c2 => simp [Value.oneCell']
        case c3 => have hxl := HV.out.2; unfold maxLen; omega
        case c4 => have hxl := HV.out.2; omega
        case c5 => simp; omega
        case c6 =>
         intro v' w6 hown' hgrow _ hat
         have hno : ∀ q', Value.ownBlock (.slice vq xs.length vc) = some q' → q' ≠ wo2.heap.size := fun q' hq => (ho.fv q' hq).2
         have hbox6 : w6.heap[wo2.heap.size]? = some (.cells #[.int .i64 (S.cls r), .slice vq xs.length vc] 51) := ((Upd.refl (Value.ownBlock (.slice vq xs.length vc)).toList _).grown hgrow (fun q' hq => Or.inl (Option.mem_toList.2 hq))).heap hoA.box (fun hm => hno _ (Option.mem_toList.1 hm) rfl)
         have hb6 := cell_of hbox6 1
         have hf6 := froz_of hbox6 1
         obtain ⟨g', c', hv'⟩ : ∃ g' c', v' = .slice (some ⟨g', 0, none⟩) (xs.length + 1) c' := by
          rcases hown'.2 with ⟨_, hz⟩ | ⟨g', c', _, hv, _⟩
          ·omega
          ·exact ⟨g', c', hv⟩
         subst hv'
         have hob6 := hoA.push x hown' hgrow hat
         have hU6 : Upd [] w (w6.setCell ⟨wo2.heap.size, 1, none⟩ (.slice (some ⟨g', 0, none⟩) (xs.length + 1) c')) := (((hU3).alloc _).grown hgrow (fun q' hq => Or.inr (by have := (ho.row.lt q' hq).1; omega))).setCell (Or.inr (Nat.le_trans (Nat.le_add_right _ 4) ho.fb.1)) _
         clear hown' hgrow hat
         have HB6 := Lib.hid hob6
         clear hob6 hoA
         go_wp2_with fail
         go_roundw
         case rel =>
          refine ⟨j + 1, ov3, od3, _, xs ++ [x], by omega, by go_num, HB6.out, hU6, ⟨?_, by simp [HV.out.2]⟩⟩
          rw [HVS.out, Hp.valStep, HV.out.1, HRF.out, HXE.out]
          rfl
         case measure => simp [intOf]; omega
      ·obtain rfl : j = n := by omega
       obtain ⟨vq, vc, rfl⟩ := ho.form
       have hbx := cell_of ho.box 0
       have hbx1 := cell_of ho.box 1
       have HHO := Lib.hid ho
       clear ho
       go_wp2_with (at_builtin; refine stop_here ?_)
       refine Hid.mk ?_
       have hoA := HHO.out.upd0 ((Upd.refl [] wo3).alloc (.cells #[.int .i64 (S.cls r), .slice vq xs.length vc] 51))
       have hsB := lt_of_heap HHO.out.st.sh.c3
       have hcn := cell_of (heap_alloc_new wo3 (.cells #[.int .i64 (S.cls r), .slice vq xs.length vc] 51))
       refine (wpList_append_own_at _ rfl _ _ 41 rfl (w.heap.size + 4) 51 i2 (.agg #[.int .i64 0, .slice none 0 0]) 2 32 Tryd.underlying41 KI.out KZ0.out KZ1.out KZ2.out rfl (by decide) _ _ _ rfl hoA.st.out ⟨wo3.heap.size, 0, none⟩ 1 1 [.int .i64 (S.cls r), .slice vq xs.length vc] rfl rfl ?d1 ?d2 ?d3 ?d4 ?d5 ?d6)
       case d1 =>
        intro jj uu hjj
        rw [Addr.add_lit, Nat.zero_add, hcn]
        simpa using hjj
       case d2 => simp [Value.oneCell']
       case d3 => have hpl := HK.out.2.1; unfold maxLen; omega
       case d4 => have hpl := HK.out.2.1; omega
       case d5 => simp; omega
       case d6 =>
        intro v' w6 hown' hgrow _ hat
        obtain ⟨b, hiv, hbb⟩ := hoA.op
        have hpush := hoA.st.push ⟨S.cls r, xs, .slice vq xs.length vc, b⟩ hiv hbb hown' hgrow hat
        have hU6 : Upd [] w w6 := (hU3.alloc _).grown hgrow (fun q' hq => Or.inr (by have := (HHO.out.st.out.lt q' hq).1; omega))
        clear hown' hgrow hat hiv hbb hoA hcn
        have HPU := Lib.hid hpush
        clear hpush
        go_wp2_with fail
        go_roundw
        case rel =>
         have hmon := vals_mono S r od j
         rw [HV.out.1] at hmon
         have hpl := HK.out.2.1
         refine ⟨k + 1, ov3, od3, _, by go_num, HPU.out, hU6, ⟨?_, by simp [hpl], by simp only at hmon; omega⟩⟩
         show S.outStep (S.outN k _) = _
         rw [HK.out.1, HST.out, HV.out.1]
         simp [OP.o]
        case measure => simp [intOf]; omega
    ·go_wp2_with fail
     go_ret2
     refine ⟨_, _, ps, _, od, rfl, hst, ?_, hU2⟩
     obtain ⟨h1, h2, h3⟩ := HK.out
     have h4 : S.outN (S.A.length + 1) ([], (S.roots rs).2) = S.outN k ([], (S.roots rs).2) := outN_stay S _ k _ (by rw [h1]; simp; omega) (by omega)
     show _ = (S.outN (S.A.length + 1) ([], (S.roots rs).2)).1
     rw [h4, h1]

end Go.Proofs.YtbcoejmiihgfoaaDoor
