/- Shape: the map of numbers, and the closure that meets an object. -/
import Derived.Test.YtneeljhjfmcdoaaDoorHeap7
import Derived.Test.YtneeljhjfmcdoaaDoorInts
import Derived.Maps.OwnOps
import Derived.Maps.OwnSet
import Derived.Maps.Views
import Derived.Maps.AppendAt
import Derived.WalkArith
namespace Go.Proofs.YtneeljhjfmcdoaaDoor
open Go.RowKit

theorem zeroI (w : World) : (zeroValue 3).run Tryd.prog w = .ok (.int .i64 0) w := by kernel_rfl

/-- A datum that tells each of these integers its place. -/
def NumD (D : DataW Nat) (od : List Int) : Prop :=
  Maps.IsMap D ∧ ∀ r : Int, (Lit.int .i64 r).wf = true → Maps.has D (.int .i64 r) = decide (r ∈ od) ∧ (r ∈ od → D.atKey (.int .i64 r) (.lit (.int .i64 0)) = .lit (.int .i64 ((od.idxOf r : Nat) : Int)))

theorem NumD.nil : NumD (.map []) [] := ⟨Maps.isMap_empty, fun r _ => ⟨by simp [Maps.has], by simp⟩⟩

theorem NumD.put {D : DataW Nat} {od : List Int} (h : NumD D od) {r : Int} (hr : (Lit.int .i64 r).wf = true) (hn : r ∉ od) : NumD (D.put (.int .i64 r) (.lit (.int .i64 ((od.length : Nat) : Int)))) (od ++ [r]) := by
  refine ⟨h.1.put _ _, fun q hq => ?_⟩
  have hk : WideAt.IsKeyLit (.int .i64 r) := (Maps.int_keyed Tryd.underlying3).key (Maps.keyOf_int_mk Tryd.underlying3 hr)
  by_cases e : q = r
  · subst e
    refine ⟨by rw [Maps.has_put_same h.1 hk]; simp, fun _ => ?_⟩
    rw [Maps.atKey_put_same h.1 hk, List.idxOf_append]
    simp [hn]
  · have hne : (Lit.int .i64 q) ≠ .int .i64 r := by simpa using e
    obtain ⟨h1, h2⟩ := h.2 q hq
    refine ⟨by rw [Maps.has_put_other hne, h1]; simp [e], fun hm => ?_⟩
    have hm' : q ∈ od := by simpa [e] using hm
    rw [Maps.atKey_put_other hne, h2 hm', List.idxOf_append]
    simp [hm']

/-- What the closure answers, and what the order is then. -/
def Hp.meetV (S : Hp) (od : List Int) (r : Int) : Int := if S.is r = true then ((od.idxOf r : Nat) : Int) else -1
def Hp.meetO (S : Hp) (od : List Int) (r : Int) : List Int := if S.is r = true ∧ r ∉ od then od ++ [r] else od

/-- Shape's own memory, from block B on: the heap's variable, the map, the map's variable, the order's variable, the order's row. -/
structure Shp (w : World) (B : Nat) (L : HL) (cv mv : Value) (S : Hp) (ov : Value) (od : List Int) : Prop where
  hp : HpAt w L cv mv S
  c0 : w.heap[B]? = some (.cells #[.pointer (some ⟨L.hb, 0, none⟩)] 24)
  c2 : w.heap[B + 2]? = some (.cells #[.map (some (B + 1))] 103)
  c3 : w.heap[B + 3]? = some (.cells #[ov] 22)
  row : w.ownsRow (B + 4) 3 1 ov od.length (od.map (Value.int .i64))
  num : ∃ D : DataW Nat, w.ownsMap Tryd.prog 3 (plainElem Tryd.prog 3) (B + 1) od.length D ∧ NumD D od
  low : ∀ i ∈ L.all, i < B
  nd : od.Nodup
  obj : ∀ r ∈ od, S.is r = true

theorem idx_bound (od : List Int) (r : Int) : od.idxOf r ≤ od.length := List.idxOf_le_length

set_option maxHeartbeats 400000 in
theorem meet_no (B : Nat) (L : HL) (cv mv : Value) (S : Hp) (ov : Value) (od : List Int) (r : Int) (w : World) (h : Shp w B L cv mv S ov od) (hr : S.is r = false) (hb : -9223372036854775808 ≤ r ∧ r ≤ 9223372036854775807) :
    Calls Tryd.prog 49 #[.int .i64 r, .pointer (some ⟨B, 0, none⟩), .pointer (some ⟨B + 2, 0, none⟩), .pointer (some ⟨B + 3, 0, none⟩)] w fun e w' => e = .returned (.int .i64 (-1)) ∧ w = w' := by
  have hc0 := cell_of h.c0 0
  have hh := h.hp
  go_enter Tryd.func49, Tryd.ntmps49
  go_wp2_with fail
  refine (is_no _ _ _ _ _ _ hh hr hb.2).mono ?_
  rintro e w' ⟨rfl, rfl⟩
  go_wp2_with fail
  go_ret
  exact ⟨rfl, rfl⟩

set_option maxHeartbeats 400000 in
theorem meet_old (B : Nat) (L : HL) (cv mv : Value) (S : Hp) (ov : Value) (od : List Int) (r : Int) (w : World) (h : Shp w B L cv mv S ov od) (hr : S.is r = true) (hm : r ∈ od) (hb : -9223372036854775808 ≤ r ∧ r ≤ 9223372036854775807) :
    Calls Tryd.prog 49 #[.int .i64 r, .pointer (some ⟨B, 0, none⟩), .pointer (some ⟨B + 2, 0, none⟩), .pointer (some ⟨B + 3, 0, none⟩)] w fun e w' => e = .returned (.int .i64 ((od.idxOf r : Nat) : Int)) ∧ w = w' := by
  have hc0 := cell_of h.c0 0
  have hc2 := cell_of h.c2 0
  have hh := h.hp
  obtain ⟨D, hown, hD⟩ := h.num
  have hwf : (Lit.int .i64 r).wf = true := Go.WalkArith.wf_i64 hb
  obtain ⟨hhas, hat⟩ := hD.2 r hwf
  have hh2 : Maps.has D (.int .i64 r) = true := by rw [hhas]; simpa using hm
  have HAT := Lib.hid (hat hm)
  have HR := Lib.hid hr
  clear hat hhas hr hD
  have hkey := Maps.keyOf_int_mk (P := Tryd.prog) Tryd.underlying3 hwf
  have law := Maps.int_keyed (P := Tryd.prog) Tryd.underlying3
  go_enter Tryd.func49, Tryd.ntmps49
  go_wp2_with fail
  refine (is_yes _ _ _ _ _ _ hh HR.out).mono ?_
  rintro e w' ⟨rfl, rfl⟩
  go_wp2_with (at_lookup; refine stop_here ?_)
  refine Hid.mk ?_
  refine wpList_lookup_own_ok_int _ rfl _ _ 103 rfl 3 3 .i64 law Tryd.underlying103 Tryd.underlying3 (zeroI _) (B + 1) od.length D rfl hown _ _ rfl hkey ?_
  intro c hc _
  rw [hh2]
  clear hc
  go_wp2_with (at_lookup; refine stop_here ?_)
  refine Hid.mk ?_
  refine wpList_lookup_own_int _ rfl _ _ 103 rfl 3 3 .i64 law Tryd.underlying103 Tryd.underlying3 (zeroI _) (B + 1) od.length D rfl hown _ _ rfl hkey ?_
  intro d hd _
  rw [HAT.out] at hd
  have hdd : ((od.idxOf r : Nat) : Int) = d := by simpa using hd
  clear hd
  subst hdd
  go_wp2_with fail
  go_ret
  exact ⟨rfl, rfl⟩

theorem len_le : ∀ (n : Nat) (od : List Int), od.Nodup → (∀ r ∈ od, 1 ≤ r ∧ r ≤ (n : Int)) → od.length ≤ n := by
  intro n
  induction n with
  | zero =>
    intro od _ h
    cases od with
    | nil => simp
    | cons a t => have := h a (by simp); omega
  | succ n ih =>
    intro od hn h
    have h1 := ih (od.erase ((n + 1 : Nat) : Int)) (hn.erase _) (fun r hr => by
      have h2 := (hn.mem_erase_iff).1 hr
      have h3 := h r h2.2
      have h4 := h2.1
      omega)
    have h5 := List.length_erase (a := ((n + 1 : Nat) : Int)) (l := od)
    split at h5 <;> omega

theorem Shp.few {w : World} {B : Nat} {L : HL} {cv mv : Value} {S : Hp} {ov : Value} {od : List Int} (h : Shp w B L cv mv S ov od) : od.length ≤ S.A.length :=
  len_le _ _ h.nd (fun r hr => by have := h.hp.ok.le (h.obj r hr); omega)

theorem Shp.form {w : World} {B : Nat} {L : HL} {cv mv : Value} {S : Hp} {ov : Value} {od : List Int} (h : Shp w B L cv mv S ov od) : ∃ p c, ov = .slice p od.length c := by
  rcases h.row.2 with ⟨h1, h2⟩ | ⟨g, c, _, h1, _⟩
  · exact ⟨none, 0, by rw [h1, h2]⟩
  · exact ⟨_, c, h1⟩

set_option maxHeartbeats 800000 in
theorem meet_new (B : Nat) (L : HL) (cv mv : Value) (S : Hp) (ov : Value) (od : List Int) (r : Int) (w : World) (h : Shp w B L cv mv S ov od) (hr : S.is r = true) (hm : r ∉ od) (hb : -9223372036854775808 ≤ r ∧ r ≤ 9223372036854775807) :
    Calls Tryd.prog 49 #[.int .i64 r, .pointer (some ⟨B, 0, none⟩), .pointer (some ⟨B + 2, 0, none⟩), .pointer (some ⟨B + 3, 0, none⟩)] w fun e w' => ∃ ov', e = .returned (.int .i64 ((od.length : Nat) : Int)) ∧ Shp w' B L cv mv S ov' (od ++ [r]) ∧
      Upd ([B + 1, B + 3] ++ ov.ownBlock.toList) w w' ∧ (ov'.ownBlock = ov.ownBlock ∨ ∃ k, ov'.ownBlock = some k ∧ w.heap.size ≤ k) := by
  have hlen := h.few
  have hA := h.hp.ok.len
  obtain ⟨p, oc, rfl⟩ := h.form
  have hc0 := cell_of h.c0 0
  have hc2 := cell_of h.c2 0
  have hc3 := cell_of h.c3 0
  have hh := h.hp
  obtain ⟨D, hown, hD⟩ := h.num
  have hwf : (Lit.int .i64 r).wf = true := Go.WalkArith.wf_i64 hb
  obtain ⟨hhas, hat⟩ := hD.2 r hwf
  have hh2 : Maps.has D (.int .i64 r) = false := by rw [hhas]; simpa using hm
  have HR := Lib.hid hr
  have HM := Lib.hid hm
  have H := Lib.hid h
  have HP := Lib.hid (hD.put hwf hm)
  clear hat hhas hr hD hm
  have hkey := Maps.keyOf_int_mk (P := Tryd.prog) Tryd.underlying3 hwf
  have law := Maps.int_keyed (P := Tryd.prog) Tryd.underlying3
  have hrow := h.row
  have hlt := hown.lt
  have hl3 := lt_of_heap h.c3
  obtain ⟨i0, hi, hz0, hz1, hz2⟩ := info_parts Tryd.infoInt
  have HI := Lib.hid hi
  have HZ0 := Lib.hid hz0
  have HZ1 := Lib.hid hz1
  have HZ2 := Lib.hid hz2
  clear hi hz0 hz1 hz2 h
  go_enter Tryd.func49, Tryd.ntmps49
  go_wp2_with fail
  refine (is_yes _ _ _ _ _ _ hh HR.out).mono ?_
  rintro e w' ⟨rfl, rfl⟩
  go_wp2_with (at_lookup; refine stop_here ?_)
  refine Hid.mk ?_
  refine wpList_lookup_own_ok_int _ rfl _ _ 103 rfl 3 3 .i64 law Tryd.underlying103 Tryd.underlying3 (zeroI _) (B + 1) od.length D rfl hown _ _ rfl hkey ?_
  intro c hc _
  rw [hh2]
  clear hc
  go_wp2_with (at_mapUpdate; refine stop_here ?_)
  refine Hid.mk ?_
  refine wpList_mapUpdate_own _ rfl _ _ _ 103 rfl 3 3 law Tryd.underlying103 _ (B + 1) od.length D rfl hown (by unfold maxLen; omega) _ _ _ rfl rfl hkey (.lit (.int .i64 ((od.length : Nat) : Int))) [] (plainElem_int Tryd.underlying3 (Go.WalkArith.wf_i64 (by omega))) ?_
  intro w1 hown1 hg1
  have hrow1 := hrow.kept hg1 ?r1
  case r1 =>
    rcases hb' : Value.ownBlock (.slice p od.length oc) with _ | k
    · exact .inl rfl
    · refine .inr ?_
      have := (hrow.lt k hb').1
      intro e
      injection e with e
      omega
  have hu1 : Upd [B + 1] w w1 := (Upd.refl [B + 1] w).grown hg1 (fun q hq => Or.inl (by cases hq; simp))
  have hc2' := hu1.cell hc2 (by simp)
  have hc3' := hu1.cell hc3 (by simp)
  have hs1 := hu1.size
  go_wp2_with (at_builtin; refine stop_here ?_)
  refine Hid.mk ?_
  refine (wpList_append_own_at _ rfl _ _ 22 rfl (B + 4) 3 i0 (.int .i64 0) 1 8 Tryd.underlying22 HI.out HZ0.out HZ1.out HZ2.out rfl (by decide) _ _ _ rfl (hrow1.alloc _) ⟨w1.heap.size, 0, none⟩ 1 1 [.int .i64 r] rfl rfl ?c1 ?c2 ?c3 ?c4 ?c5 ?c6)
  case c1 => exact cell_one_new _ _ _
  case c2 => simp [Value.oneCell']
  case c3 => unfold maxLen; omega
  case c4 => omega
  case c5 => simp; omega
  case c6 =>
    intro v' w6 hown' hgrow _ hat
    have hlo : ∀ q, Value.ownBlock (.slice p od.length oc) = some q → B + 4 ≤ q := fun q hq => (hrow.lt q hq).1
    have hu6 : Upd ([B + 1] ++ (Value.ownBlock (.slice p od.length oc)).toList) w w6 := ((hu1.mono (fun i hi _ => by simp at hi; simp [hi])).alloc _).grown hgrow (fun q hq => Or.inl (List.mem_append.2 (.inr (Option.mem_toList.2 hq))))
    have hnot : B + 3 ∉ [B + 1] ++ (Value.ownBlock (.slice p od.length oc)).toList := by
      simp only [List.mem_append, List.mem_singleton, Option.mem_toList, not_or]
      exact ⟨by omega, fun e => by have := hlo _ e; omega⟩
    have hnot2 : B + 2 ∉ [B + 1] ++ (Value.ownBlock (.slice p od.length oc)).toList := by
      simp only [List.mem_append, List.mem_singleton, Option.mem_toList, not_or]
      exact ⟨by omega, fun e => by have := hlo _ e; omega⟩
    have H3 := hu6.heap H.out.c3 hnot
    have hc3'' := cell_of H3 0
    have hf3 := froz_of H3 0
    have hc2'' := hu6.cell hc2 hnot2
    have hown6 := (hown1.alloc (.cells #[.int .i64 r] 3)).kept hgrow (by intro e; have := hlo _ e.symm; omega)
    have hs6 := hu6.size
    have hkeep : Hid (∀ x : Value, (w6.setCell ⟨B + 3, 0, none⟩ x).ownsMap Tryd.prog 3 (plainElem Tryd.prog 3) (B + 1) (od.length + 1) (D.put (.int .i64 r) (.lit (.int .i64 ((od.length : Nat) : Int))))) := Hid.mk (fun x => hown6.kept (row := some (B + 3)) ⟨rfl, rfl, rfl, by simp [World.setCell], fun k _ hk => Below.heap_setCell _ _ _ _ (fun e => hk (by rw [e]))⟩ (by intro e; injection e with e; omega))
    obtain ⟨g, c', hv'⟩ : ∃ g c', v' = .slice (some ⟨g, 0, none⟩) (od.length + 1) c' := by
      rcases hown'.2 with ⟨_, hz⟩ | ⟨g, c', _, hv, _⟩
      · omega
      · exact ⟨g, c', hv⟩
    subst hv'
    have HO := Lib.hid hown'
    have HU := Lib.hid hu6
    have HAT2 := Lib.hid hat
    have HS := Lib.hid hs6
    clear hown' hgrow hat hu6 hown6 hown1 hown hrow hrow1 hg1 hu1 hc2 hc3 hc2' hc3' hc0
    go_wp2_with (at_lookup; refine stop_here ?_)
    refine Hid.mk ?_
    refine wpList_lookup_own_int _ rfl _ _ 103 rfl 3 3 .i64 law Tryd.underlying103 Tryd.underlying3 (zeroI _) (B + 1) (od.length + 1) _ rfl (hkeep.out _) _ _ rfl hkey ?_
    intro d hd _
    have hdd : ((od.length : Nat) : Int) = d := by
      have h1 := (HP.out.2 r hwf).2 (by simp)
      rw [h1, List.idxOf_append] at hd
      simpa [HM.out] using hd
    clear hd
    subst hdd
    go_wp2_with fail
    go_ret
    have hU7 : ∀ x : Value, Upd ([B + 1, B + 3] ++ (Value.ownBlock (.slice p od.length oc)).toList) w (w6.setCell ⟨B + 3, 0, none⟩ x) := fun x =>
      (HU.out.mono (fun i hi _ => by simp only [List.mem_append, List.mem_cons, List.not_mem_nil, or_false] at hi ⊢; rcases hi with h | h; exact .inl (.inl h); exact .inr h)).setCell (Or.inl (by simp)) _
    have hno : ∀ i, i < B + 4 → i ≠ B + 1 → i ≠ B + 3 → i ∉ [B + 1, B + 3] ++ (Value.ownBlock (.slice p od.length oc)).toList := by
      intro i h1 h2 h3 hm
      simp only [List.mem_append, List.mem_cons, List.not_mem_nil, or_false, Option.mem_toList] at hm
      rcases hm with (h | h) | h
      · exact h2 h
      · exact h3 h
      · have := hlo _ h; omega
    refine ⟨.slice (some ⟨g, 0, none⟩) (od.length + 1) c', rfl, ⟨?_, (hU7 _).heap H.out.c0 (hno _ (by omega) (by omega) (by omega)), (hU7 _).heap H.out.c2 (hno _ (by omega) (by omega) (by omega)), ?_, ?_, ⟨_, by simpa using hkeep.out _, HP.out⟩, H.out.low, ?_, ?_⟩, hU7 _, ?_⟩
    · exact hh.upd (hU7 _) (fun i hi => hno i (by have := H.out.low i hi; omega) (by have := H.out.low i hi; omega) (by have := H.out.low i hi; omega))
    · have := heap_setCell H3 0 (.slice (some ⟨g, 0, none⟩) (od.length + 1) c')
      simpa using this
    · have h1 := HO.out.kept (w' := w6.setCell ⟨B + 3, 0, none⟩ (.slice (some ⟨g, 0, none⟩) (od.length + 1) c')) (row := some (B + 3)) ⟨rfl, rfl, rfl, by simp [World.setCell], fun k _ hk => Below.heap_setCell _ _ _ _ (fun e => hk (by rw [e]))⟩ (.inr (by
        intro e
        have := (HO.out.lt _ e).1
        omega))
      simpa using h1
    · rw [List.nodup_append]
      exact ⟨H.out.nd, by simp, by intro a ha b hb e; simp at hb; subst hb; subst e; exact HM.out ha⟩
    · intro q hq
      rcases List.mem_append.1 hq with h1 | h1
      · exact H.out.obj q h1
      · simp at h1; subst h1; exact HR.out
    · rcases HAT2.out with h1 | h1
      · exact .inl h1
      · exact .inr ⟨_, h1, by simp; omega⟩

/-- Frames of the closure: which blocks it may have written. -/
def Met (B : Nat) (ov ov' : Value) (w w' : World) : Prop := Upd ([B + 1, B + 3] ++ ov.ownBlock.toList) w w' ∧ (ov'.ownBlock = ov.ownBlock ∨ ∃ k, ov'.ownBlock = some k ∧ w.heap.size ≤ k)

theorem Met.refl (B : Nat) (ov : Value) (w : World) : Met B ov ov w w := ⟨Upd.refl _ _, .inl rfl⟩

theorem meet_any (B : Nat) (L : HL) (cv mv : Value) (S : Hp) (ov : Value) (od : List Int) (r : Int) (w : World) (h : Shp w B L cv mv S ov od) (hb : -9223372036854775808 ≤ r ∧ r ≤ 9223372036854775807) :
    Calls Tryd.prog 49 #[.int .i64 r, .pointer (some ⟨B, 0, none⟩), .pointer (some ⟨B + 2, 0, none⟩), .pointer (some ⟨B + 3, 0, none⟩)] w fun e w' => ∃ ov', e = .returned (.int .i64 (S.meetV od r)) ∧ Shp w' B L cv mv S ov' (S.meetO od r) ∧ Met B ov ov' w w' := by
  unfold Hp.meetV Hp.meetO
  cases hr : S.is r with
  | false =>
    refine (meet_no B L cv mv S ov od r w h hr hb).mono ?_
    rintro e w' ⟨rfl, rfl⟩
    exact ⟨ov, rfl, h, Met.refl _ _ _⟩
  | true =>
    by_cases hm : r ∈ od
    · refine (meet_old B L cv mv S ov od r w h hr hm hb).mono ?_
      rintro e w' ⟨rfl, rfl⟩
      exact ⟨ov, rfl, by simpa [hm] using h, Met.refl _ _ _⟩
    · refine (meet_new B L cv mv S ov od r w h hr hm hb).mono ?_
      rintro e w' ⟨ov', rfl, h1, h2, h3⟩
      refine ⟨ov', ?_, by simpa [hm] using h1, h2, h3⟩
      rw [List.idxOf_eq_length hm]
      rfl

end Go.Proofs.YtneeljhjfmcdoaaDoor
