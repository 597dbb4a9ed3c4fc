/- The document's search that does not come to a place: plain Lean. No program in sight. overdriveref5.Without: which places can be reached without coming to one. -/
import Derived.Test.YtjjkliifpdcliaaDoorDomPl
import Derived.Test.YtjjkliifpdcliaaDoorCleanL
import Derived.Test.YtjjkliifpdcliaaDoorBools
import Derived.Test.YtjjkliifpdcliaaDoorPreds
/-! The document's search that does not come to a place: plain Lean. No program in sight. -/
namespace Go.Proofs.YtjjkliifpdcliaaDoor

/-- A place is seen from another, but the one that is not to be come to. -/
def Nx (g : List (List Int)) (d i y : Nat) : Prop := y < g.length ∧ (y : Int) ∈ g.getD i [] ∧ y ≠ d
theorem nx_ed (g : List (List Int)) (d i y : Nat) (hi : i < g.length) : Nx g d i y ↔ Ed (cleanG g) i y ∧ y ≠ d := by
  unfold Nx Ed
  rw [cleanG_get g i hi, (crow_spec _ _).2]
  exact ⟨fun h => ⟨⟨h.1, h.2.1⟩, h.2.2⟩, fun h => ⟨h.1.1, h.1.2, h.2⟩⟩

/-- What always holds: seen, those still to do; ex: those whose row is under way. -/
structure WI (g : List (List Int)) (d : Nat) (seen : List Bool) (todo : List Nat) (ex : Nat → Prop) : Prop where
  len : seen.length = g.length
  av : ∀ x, seen.getD x false = true → Av (Ed (cleanG g)) d x
  td : ∀ x ∈ todo, seen.getD x false = true
  z : seen.getD 0 false = true
  cl : ∀ x, seen.getD x false = true → x ∈ todo ∨ ex x ∨ ∀ y, Nx g d x y → seen.getD y false = true
  bound : todo.length + seen.count false ≤ g.length

theorem getD_lt_b {l : List Bool} {x : Nat} (h : l.getD x false = true) : x < l.length := by
  rcases Nat.lt_or_ge x l.length with h1 | h1
  · exact h1
  · rw [List.getD_eq_getElem?_getD, List.getElem?_eq_none h1] at h; simp at h
theorem count_set_b (l : List Bool) (x : Nat) (hx : x < l.length) (h : l.getD x false = false) : (l.set x true).count false + 1 = l.count false := by
  have h1 : l[x] = false := by rw [List.getD_eq_getElem?_getD, List.getElem?_eq_getElem hx] at h; exact h
  have h2 : 0 < l.count false := List.count_pos_iff.2 (h1 ▸ List.getElem_mem hx)
  rw [List.count_set hx, h1]
  simp
  omega

theorem WI.start (g : List (List Int)) (d : Nat) (h : 0 < g.length) (hd : d ≠ 0) : WI g d ((List.replicate g.length false).set 0 true) [0] (fun _ => False) := by
  have hs : ∀ x, ((List.replicate g.length false).set 0 true).getD x false = true → x = 0 := fun x hx => by
    rw [getD_set_if] at hx
    split at hx
    · rename_i e; exact e.1.symm
    · rw [List.getD_eq_getElem?_getD, List.getElem?_replicate] at hx
      split at hx <;> simp at hx
  have h0 : ((List.replicate g.length false).set 0 true).getD 0 false = true := by
    rw [getD_set_if, if_pos ⟨rfl, by simpa using h⟩]
  refine ⟨by simp, fun x hx => ?_, fun x hx => ?_, h0, fun x hx => .inl (by rw [hs x hx]; simp), ?_⟩
  · rw [hs x hx]; exact .zero (fun e => hd e.symm)
  · rw [List.mem_singleton] at hx; rw [hx]; exact h0
  · have := count_set_b (List.replicate g.length false) 0 (by simpa using h) (by rw [List.getD_eq_getElem?_getD, List.getElem?_replicate]; split <;> rfl)
    rw [List.count_replicate_self] at this
    simp only [List.length_singleton]
    omega

theorem WI.pop {g : List (List Int)} {d : Nat} {seen : List Bool} {todo : List Nat} (h : WI g d seen todo (fun _ => False)) {m : Nat} (hm : todo.length = m + 1) : WI g d seen (todo.take m) (fun x => x = todo.getD m 0) ∧ todo.getD m 0 < g.length ∧ seen.getD (todo.getD m 0) false = true := by
  have e := List.take_succ_eq_append_getElem (l := todo) (i := m) (by omega)
  rw [← hm, List.take_length] at e
  have eg : todo.getD m 0 = todo[m] := by rw [List.getD_eq_getElem?_getD, List.getElem?_eq_getElem (by omega)]; rfl
  have hs := h.td (todo.getD m 0) (by rw [eg]; exact List.getElem_mem _)
  refine ⟨⟨h.len, h.av, fun x hx => h.td x (List.mem_of_mem_take hx), h.z, fun x hx => ?_, ?_⟩, by have := getD_lt_b hs; rw [h.len] at this; exact this, hs⟩
  · rcases h.cl x hx with h1 | h1 | h1
    · rw [e] at h1
      rcases List.mem_append.1 h1 with h1 | h1
      · exact .inl h1
      · rw [List.mem_singleton] at h1
        exact .inr (.inl (by rw [eg]; exact h1))
    · exact h1.elim
    · exact .inr (.inr h1)
  · have := h.bound
    rw [List.length_take]
    omega

/-- A new place is seen. -/
theorem WI.see {g : List (List Int)} {d : Nat} {seen : List Bool} {todo : List Nat} {ex : Nat → Prop} (h : WI g d seen todo ex) {i y : Nat} (hi : i < g.length) (his : seen.getD i false = true) (hn : Nx g d i y) (hy : seen.getD y false = false) : WI g d (seen.set y true) (todo ++ [y]) ex := by
  have hyl : y < seen.length := by rw [h.len]; exact hn.1
  have hs : ∀ x, (seen.set y true).getD x false = true ↔ (seen.getD x false = true ∨ x = y) := fun x => by
    rw [getD_set_if]
    by_cases e : y = x
    · rw [if_pos ⟨e, hyl⟩]; simp [e]
    · rw [if_neg (fun e2 => e e2.1)]
      constructor
      · exact .inl
      · rintro (h1 | h1)
        · exact h1
        · exact absurd h1.symm e
  have hc := count_set_b seen y hyl hy
  refine ⟨by rw [List.length_set]; exact h.len, fun x hx => ?_, fun x hx => ?_, (hs 0).2 (.inl h.z), fun x hx => ?_, ?_⟩
  · rcases (hs x).1 hx with h1 | h1
    · exact h.av x h1
    · rw [h1]
      have h2 := (nx_ed g d i y hi).1 hn
      exact .step i y (h.av i his) h2.1 h2.2
  · rcases List.mem_append.1 hx with h1 | h1
    · exact (hs x).2 (.inl (h.td x h1))
    · rw [List.mem_singleton] at h1; exact (hs x).2 (.inr h1)
  · rcases (hs x).1 hx with h1 | h1
    · rcases h.cl x h1 with h2 | h2 | h2
      · exact .inl (List.mem_append_left _ h2)
      · exact .inr (.inl h2)
      · exact .inr (.inr fun z hz => (hs z).2 (.inl (h2 z hz)))
    · exact .inl (by rw [h1]; simp)
  · have := h.bound
    rw [List.length_append, List.length_singleton]
    omega

/-- A row is through. -/
theorem WI.close {g : List (List Int)} {d i : Nat} {seen : List Bool} {todo : List Nat} (h : WI g d seen todo (fun x => x = i)) (hr : ∀ y, Nx g d i y → seen.getD y false = true) : WI g d seen todo (fun _ => False) :=
  ⟨h.len, h.av, h.td, h.z, fun x hx => by
    rcases h.cl x hx with h1 | h1 | h1
    · exact .inl h1
    · subst h1; exact .inr (.inr hr)
    · exact .inr (.inr h1), h.bound⟩

open Classical in
/-- Which places can be reached without coming to d. -/
noncomputable def avL (g : List (List Int)) (d : Nat) : List Bool := (List.range g.length).map fun x => decide (Av (Ed (cleanG g)) d x)
theorem avL_len (g : List (List Int)) (d : Nat) : (avL g d).length = g.length := by simp [avL]
open Classical in
theorem avL_get (g : List (List Int)) (d x : Nat) (h : x < g.length) : (avL g d).getD x false = decide (Av (Ed (cleanG g)) d x) := by
  simp [avL, List.getD_eq_getElem?_getD, h]

theorem ed_lt {g : List (List Int)} {p x : Nat} (h : Ed (cleanG g) p x) : p < g.length ∧ x < g.length := by
  have h1 : p < g.length := by
    rcases Nat.lt_or_ge p g.length with h1 | h1
    · exact h1
    · unfold Ed at h
      rw [List.getD_eq_getElem?_getD, List.getElem?_eq_none (by rw [cleanG_len]; exact h1)] at h
      simp at h
  have h2 := (cleanG_clean g p (by rw [cleanG_len]; exact h1)).2 x h
  rw [cleanG_len] at h2
  exact ⟨h1, h2⟩

open Classical in
theorem WI.fin {g : List (List Int)} {d : Nat} {seen : List Bool} (h : WI g d seen [] (fun _ => False)) : seen = avL g d := by
  have key : ∀ x, Av (Ed (cleanG g)) d x → seen.getD x false = true := by
    intro x hx
    induction hx with
    | zero _ => exact h.z
    | step p x _ e hne ih =>
      rcases h.cl p ih with h1 | h1 | h1
      · simp at h1
      · exact h1.elim
      · exact h1 x ((nx_ed g d p x (ed_lt e).1).2 ⟨e, hne⟩)
  apply List.ext_getElem
  · rw [avL_len]; exact h.len
  · intro x h1 h2
    have h3 := avL_get g d x (by rw [← h.len]; exact h1)
    rw [List.getD_eq_getElem?_getD, List.getElem?_eq_getElem h2] at h3
    simp only [Option.getD_some] at h3
    rw [h3]
    have h4 : seen.getD x false = seen[x] := by rw [List.getD_eq_getElem?_getD, List.getElem?_eq_getElem h1]; rfl
    by_cases hv : Av (Ed (cleanG g)) d x
    · rw [decide_eq_true hv, ← h4]; exact key x hv
    · rw [decide_eq_false hv, ← h4]
      cases hsx : seen.getD x false with
      | false => rfl
      | true => exact absurd (h.av x hsx) hv
/-- Where the search may not begin, nothing is seen. -/
theorem avL_none (g : List (List Int)) (d : Nat) (h : d = 0 ∨ g.length = 0) : avL g d = List.replicate g.length false := by
  have key : d = 0 → ∀ x, ¬ Av (Ed (cleanG g)) d x := by
    rintro rfl x hx
    induction hx with
    | zero h => exact h rfl
    | step _ _ _ _ _ ih => exact ih
  apply List.ext_getElem
  · simp [avL]
  · intro x h1 h2
    have hx : x < g.length := by rw [avL_len] at h1; exact h1
    rcases h with h | h
    · simp [avL, key h x]
    · omega

end Go.Proofs.YtjjkliifpdcliaaDoor

/-! overdriveref5.Without: which places can be reached without coming to one. -/
namespace Go.Proofs.YtjjkliifpdcliaaDoor
open Go.RowKit

theorem OwnI.takeN {w : World} {B g c : Nat} {e : TypeId} {xs : List Int} (h : OwnI w B e (.slice (some ⟨g, 0, none⟩) xs.length c) xs) (q : Nat) (hq : q ≤ xs.length) : OwnI w B e (.slice (some ⟨g, 0, none⟩) q c) (xs.take q) := by
  rcases h.2 with ⟨h1, _⟩ | ⟨g', c', cur, h1, h3, h4, h5, h6, h7, h8⟩
  · cases h1
  · injection h1 with e1 e2 e3
    injection e1 with e1
    injection e1 with e1 _
    subst e1
    subst e3
    unfold OwnI
    have hl : (xs.take q).length = q := by rw [List.length_take]; omega
    rw [hl]
    refine ⟨by simp; omega, .inr ⟨g, c, cur, rfl, h3, h4, by omega, h6, h7, ?_⟩⟩
    rw [Nat.mul_one] at h8 ⊢
    rw [List.map_take, ← h8, List.take_take]
    congr 1
    omega

/-- A block of booleans, read. -/
def rdB (w : World) (b : Nat) : List Bool := match w.heap[b]? with
  | some (.cells cs _ _) => cs.toList.map fun v => match v with | .bool x => x | _ => false
  | _ => []
theorem rdB_of {w : World} {b : Nat} {xs : List Bool} {t : TypeId} {f : Nat × Nat} (h : w.heap[b]? = some (.cells (bcells xs) t f)) : rdB w b = xs := by
  unfold rdB
  rw [h]
  simp [bcells, Function.comp_def]
def sliceN (v : Value) : Nat := match v with
  | .slice _ n _ => n
  | _ => 0

set_option maxRecDepth 100000 in
set_option maxHeartbeats 4000000 in
theorem without_any (v : Value) (g : List (List Int)) (w : World) (h : RowsAt w v g) (hn : g.length ≤ 1000) (hr : ∀ l ∈ g, l.length ≤ 100000) (no : Int) (d : Nat) (hno : -9223372036854775808 ≤ no ∧ no ≤ 9223372036854775807) (hd : ∀ x : Nat, x < g.length → ((x : Int) = no ↔ x = d)) :
    Calls Tryd.prog 11 #[v, .int .i64 no] w fun e w' => ∃ rb, e = .returned (.slice (some ⟨rb, 0, none⟩) g.length g.length) ∧ w'.heap[rb]? = some (.cells (bcells (avL g d)) 4) ∧ w.heap.size ≤ rb ∧ Upd [] w w' := by
  obtain ⟨i0, hi, hz0, hz1, hz2⟩ := info_parts Tryd.infoInt
  have HI := Lib.hid hi
  have HZ0 := Lib.hid hz0
  have HZ1 := Lib.hid hz1
  have HZ2 := Lib.hid hz2
  clear hi hz0 hz1 hz2
  have hmk := make_bools w g.length (by omega)
  obtain ⟨a, cap, rfl, hl, hrow⟩ := h
  have HROW := Lib.hid hrow
  have HR := Lib.hid hr
  have HD := Lib.hid hd
  clear hrow hr hd hl
  have hu1 : Upd [] w (w.alloc (.cells (bcells (List.replicate g.length false)) 4)) := (Upd.refl [] w).alloc _
  have HB1 := Lib.hid (heap_alloc_new w (.cells (bcells (List.replicate g.length false)) 4))
  have HU1 := Lib.hid hu1
  clear hu1
  go_enter Tryd.func11, Tryd.ntmps11
  by_cases hg0 : g.length = 0
  · have d0 : ((g.length : Int) == 0) = true := by rw [beq_iff_eq]; omega
    have HE := Lib.hid (avL_none g d (.inr hg0))
    clear hg0
    go_wp2_with fail
    go_ret
    exact ⟨_, rfl, by rw [HE.out]; exact HB1.out, Nat.le_refl _, HU1.out⟩
  · have d0 : ((g.length : Int) == 0) = false := by rw [beq_eq_false_iff_ne]; omega
    have hg1 : 0 < g.length := by omega
    clear hg0
    by_cases hno0 : no = 0
    · have HE := Lib.hid (avL_none g d (.inl (((HD.out 0 hg1).1 (by rw [hno0]; rfl)).symm)))
      subst hno0
      go_wp2_with fail
      go_ret
      exact ⟨_, rfl, by rw [HE.out]; exact HB1.out, Nat.le_refl _, HU1.out⟩
    · have d1 : (no == 0) = false := by simpa using hno0
      have hd0 : d ≠ 0 := fun e => hno0 (((HD.out 0 hg1).2 e.symm).symm)
      have HW0 := Lib.hid (WI.start g d hg1 hd0)
      have hB2 := heap_alloc_new w (.cells ((bcells (List.replicate g.length false)).setIfInBounds 0 (.bool true)) 4)
      have HU2 := Lib.hid ((Upd.refl [] w).alloc (.cells ((bcells (List.replicate g.length false)).setIfInBounds 0 (.bool true)) 4))
      have HZ := Lib.hid (World.size_alloc w (.cells ((bcells (List.replicate g.length false)).setIfInBounds 0 (.bool true)) 4))
      have HB2 : Hid ((w.alloc (.cells ((bcells (List.replicate g.length false)).setIfInBounds 0 (.bool true)) 4)).heap[w.heap.size]? = some (.cells (bcells ((List.replicate g.length false).set 0 true)) 4)) := by
        show _ = _
        rw [hB2, bcells_set]
      have hc0 := cell_of HB1.out 0
      rw [bcells_get _ 0 (by simpa using hg1)] at hc0
      have hf0 := froz_of HB1.out 0
      clear hno0 hd0
      clear hB2
      go_wp2_with fail
      generalize w.alloc (.cells ((bcells (List.replicate g.length false)).setIfInBounds 0 (.bool true)) 4) = w2 at HB2 HU2 HZ ⊢
      have hT0 : OwnI (w2.alloc (.cells #[.int .i64 0] 3)) w.heap.size 3 (.slice (some ⟨w.heap.size + 1, 0, none⟩) 1 1) (ints [0]) := by
        have h1 := heap_alloc_new w2 (.cells #[.int .i64 0] 3)
        rw [HZ.out] at h1
        refine ⟨rfl, .inr ⟨w.heap.size + 1, 1, _, rfl, by omega, h1, by simp [ints], by simp [maxLen], by simp, ?_⟩⟩
        simp [ints]
      have HT0 := Lib.hid hT0
      have HU3 := Lib.hid (HU2.out.alloc (.cells #[.int .i64 0] 3))
      have HB3 := Lib.hid (((Upd.refl [] w2).alloc (.cells #[.int .i64 0] 3)).heap HB2.out (by simp))
      clear hT0 hc0 hf0 hmk
      generalize w2.alloc (.cells #[.int .i64 0] 3) = w3 at HT0 HU3 HB3 ⊢
      go_loopw [6] (fun tv wr => ∃ (todo : List Nat) (seen : List Bool), Hid (OwnI wr w.heap.size 3 tv (ints todo)) ∧ Hid (wr.heap[w.heap.size]? = some (.cells (bcells seen) 4)) ∧ Hid (WI g d seen todo (fun _ => False)) ∧ Hid (Upd [] w wr)) (fun tv wr => sliceN tv + 2 * (rdB wr w.heap.size).count false)
      case atStart => exact ⟨[0], (List.replicate g.length false).set 0 true, HT0.out, HB3.out, HW0.out, HU3.out⟩
      case round =>
        clear HB1 HU1 HB2 HU2 HZ HT0 HU3 HB3 HW0
        obtain ⟨todo, seen, HT, HB, HW, HU⟩ := hrel
        obtain ⟨wo, rfl⟩ : ∃ wo : World, wo = wr := ⟨_, rfl⟩
        have HRD : Hid (rdB wo w.heap.size = seen) := rdB_of HB.out
        by_cases ht0 : todo.length = 0
        · obtain rfl : todo = [] := List.eq_nil_of_length_eq_zero ht0
          have hfin := HW.out.fin
          subst hfin
          obtain ⟨tp, tc, rfl⟩ := HT.out.shape
          have hz0 : (ints []).length = 0 := rfl
          rw [hz0]
          clear ht0 hz0
          go_wp2_with fail
          go_ret
          exact ⟨_, rfl, HB.out, Nat.le_refl _, HU.out⟩
        · obtain ⟨m, hm⟩ : ∃ m, todo.length = m + 1 := ⟨todo.length - 1, by omega⟩
          obtain ⟨hpop, hin, his⟩ := HW.out.pop hm
          have hbd := HW.out.bound
          have hmb : m + 1 ≤ 1000 := by omega
          have HBD := Lib.hid hbd
          obtain ⟨tg, tc, rfl, hgb, hgl, htc⟩ := HT.out.nth m (by rw [ints_len, hm]; omega)
          have hlc : m + 1 ≤ tc := by
            rcases HT.out.form with ⟨e2, _⟩ | ⟨g2, c2, e2, h2, _⟩
            · cases e2
            · injection e2 with _ _ e2
              rw [ints_len, hm] at h2
              omega
          have hIL : (ints todo).length = m + 1 := by rw [ints_len, hm]
          rw [ints_get todo m (by omega)] at htc
          have hT2 := HT.out.takeN m (by rw [hIL]; omega)
          have hTK : (ints todo).take m = ints (todo.take m) := by unfold ints; rw [List.map_take]
          rw [hTK] at hT2
          have HT2 := Lib.hid hT2
          have HPOP := Lib.hid hpop
          have HIS := Lib.hid his
          have htl : (todo.take m).length = m := by rw [List.length_take]; omega
          have HTL := Lib.hid htl
          rw [hIL]
          have hcut := fun W => cut_hi W tg (m + 1) tc m (by omega)
          clear hIL hT2 hTK hpop his htl ht0 hm hbd HW
          generalize todo.getD m 0 = i at htc hin HPOP HIS
          generalize todo.take m = todo2 at HT2 HPOP HTL
          obtain ⟨b, o, rv, rfl, hrc, a2, cap2, rfl, hl2, hx⟩ := HROW.out i hin
          have hrl : (g.getD i []).length ≤ 100000 := HR.out _ (by
            rw [List.getD_eq_getElem?_getD, List.getElem?_eq_getElem hin]
            exact List.getElem_mem hin)
          have HX := Lib.hid hx
          have HNXI : Hid (∀ y, Nx g d i y → ∃ k, k < (g.getD i []).length ∧ (g.getD i []).getD k 0 = (y : Int) ∧ y < g.length ∧ y ≠ d) := fun y hy => by
            obtain ⟨k, hk, e⟩ := List.getElem_of_mem hy.2.1
            exact ⟨k, hk, by rw [List.getD_eq_getElem?_getD, List.getElem?_eq_getElem hk]; exact e, hy.1, hy.2.2⟩
          have HNXO : Hid (∀ k, k < (g.getD i []).length → ∀ y : Nat, (g.getD i []).getD k 0 = (y : Int) → y < g.length → y ≠ d → Nx g d i y) := fun k hk y e h1 h2 => ⟨h1, by
            have e2 : (g.getD i []).getD k 0 = (g.getD i [])[k] := by rw [List.getD_eq_getElem?_getD, List.getElem?_eq_getElem hk]; rfl
            rw [← e, e2]
            exact List.getElem_mem hk, h2⟩
          have HRC := Lib.hid hrc
          clear hx hrc
          generalize g.getD i [] = row at HRC HX HNXI HNXO hrl hl2
          have hw1 : IntKind.i64.wrap ((m : Int) + 1 - 1) = (m : Int) := by rw [IntWalk.i64_in _ (by omega)]; omega
          have hw2 : ((m : Int) + 1 - 1) = (m : Int) := by omega
          go_wp2_with fail
          have HSN : Hid (seen.count false = seen.count false) := (rfl : _ = _)
          obtain ⟨c0, hc0⟩ : ∃ c0, seen.count false = c0 := ⟨_, rfl⟩
          have HC0 := Lib.hid hc0
          clear hc0 HSN hw1 hw2
          go_loopw [6, 8] (fun tv kv wr => ∃ (k : Nat) (todo : List Nat) (seen : List Bool), k ≤ row.length ∧ kv = .int .i64 (k : Int) ∧ Hid (OwnI wr w.heap.size 3 tv (ints todo)) ∧ Hid (wr.heap[w.heap.size]? = some (.cells (bcells seen) 4)) ∧ Hid (WI g d seen todo (fun x => x = i)) ∧ Hid (seen.getD i false = true) ∧ Hid (∀ j, j < k → ∀ y : Nat, row.getD j 0 = (y : Int) → y < g.length → y ≠ d → seen.getD y false = true) ∧ todo.length + 2 * seen.count false ≤ m + 2 * c0 ∧ Hid (Upd [] w wr)) (fun _ kv _ => row.length - (intOf kv).toNat)
          case atStart =>
            refine ⟨0, todo2, seen, by omega, rfl, HT2.out, HB.out, HPOP.out, HIS.out, fun j hj => absurd hj (by omega), ?_, HU.out⟩
            rw [HTL.out, HC0.out]; exact Nat.le_refl _
          case round =>
            have HMU : Hid (2 * (rdB wo w.heap.size).count false = 2 * c0) := by show _ = _; rw [HRD.out, HC0.out]
            clear HT HB HU htc HT2 HPOP HIS HTL HRD HC0 hcut
            obtain ⟨k, todo, seen, hk, rfl, HT, HB, HW, HIS, HS, hle, HU⟩ := hrel
            obtain ⟨wq, rfl⟩ : ∃ wq : World, wq = wr := ⟨_, rfl⟩
            have hrc := HU.out.cell HRC.out (by simp)
            by_cases hkl : k < row.length
            · obtain ⟨b2, o2, rfl, hbd, hy0⟩ := HX.out k hkl
              have hy := HU.out.cell hy0 (by simp)
              have HNK := Lib.hid (fun y e h1 h2 => HNXO.out k hkl y e h1 h2)
              have HSK : Hid (∀ seen2 : List Bool, (∀ x, seen.getD x false = true → seen2.getD x false = true) → (∀ y : Nat, row.getD k 0 = (y : Int) → y < g.length → y ≠ d → seen2.getD y false = true) → ∀ j, j < k + 1 → ∀ y : Nat, row.getD j 0 = (y : Int) → y < g.length → y ≠ d → seen2.getD y false = true) := fun seen2 hm h2 j hj y e h3 h4 => by
                by_cases e2 : j = k
                · subst e2; exact h2 y e h3 h4
                · exact hm y (HS.out j (by omega) y e h3 h4)
              clear hy0
              generalize row.getD k 0 = x at hy HNK HSK hbd
              by_cases hx0 : 0 ≤ x
              · have e0 : decide (0 ≤ x) = true := decide_eq_true hx0
                have e0' : decide (x ≥ 0) = true := decide_eq_true hx0
                by_cases hxn : x < (g.length : Int)
                · have e1 : decide (x < (g.length : Int)) = true := decide_eq_true hxn
                  obtain ⟨y, rfl⟩ := Int.eq_ofNat_of_zero_le hx0
                  have hyn : y < g.length := by omega
                  have hsc := cell_of HB.out y
                  rw [bcells_get _ _ (by rw [HW.out.len]; exact hyn)] at hsc
                  cases hsy : seen.getD y false with
                  | true =>
                    rw [hsy] at hsc
                    have HS2 := Lib.hid (HSK.out seen (fun _ h => h) (fun z e _ _ => by
                      have : z = y := by omega
                      rw [this]; exact hsy))
                    clear hsy HNK HSK HS
                    go_wp2_with fail
                    go_roundw
                    case rel => exact ⟨k + 1, todo, seen, by omega, by go_num, HT, HB, HW, HIS, HS2, hle, HU⟩
                    case measure => simp [intOf]; omega
                  | false =>
                    rw [hsy] at hsc
                    by_cases hnoy : (y : Int) = no
                    · have e3 : ((y : Int) != no) = false := by simpa using hnoy
                      have hyd : y = d := (HD.out y hyn).1 hnoy
                      have HS2 := Lib.hid (HSK.out seen (fun _ h => h) (fun z e _ h4 => by
                        have : z = y := by omega
                        exact absurd (this.trans hyd) h4))
                      clear hsy HNK HSK HS hnoy hyd
                      go_wp2_with fail
                      go_roundw
                      case rel => exact ⟨k + 1, todo, seen, by omega, by go_num, HT, HB, HW, HIS, HS2, hle, HU⟩
                      case measure => simp [intOf]; omega
                    · have e3 : ((y : Int) != no) = true := by simpa using hnoy
                      have hyd : y ≠ d := fun e => hnoy ((HD.out y hyn).2 e)
                      have HW2 := Lib.hid (HW.out.see hin HIS.out (HNK.out y rfl hyn hyd) hsy)
                      have hgs : ∀ z, (seen.set y true).getD z false = true ↔ (seen.getD z false = true ∨ z = y) := fun z => by
                        rw [getD_set_if]
                        by_cases e : y = z
                        · rw [if_pos ⟨e, by rw [HW.out.len]; exact hyn⟩]; simp [e]
                        · rw [if_neg (fun e2 => e e2.1)]
                          constructor
                          · exact .inl
                          · rintro (h1 | h1)
                            · exact h1
                            · exact absurd h1.symm e
                      have HS2 := Lib.hid (HSK.out (seen.set y true) (fun z h => (hgs z).2 (.inl h)) (fun z e _ _ => (hgs z).2 (.inr (by omega))))
                      have HIS2 := Lib.hid ((hgs i).2 (.inl HIS.out))
                      have hcnt := count_set_b seen y (by rw [HW.out.len]; exact hyn) hsy
                      have hfs := froz_of HB.out y
                      have hb2 := heap_setCell HB.out y (.bool true)
                      rw [bcells_set] at hb2
                      have HB2 := Lib.hid hb2
                      have HU2 := Lib.hid (HU.out.setCell (p := ⟨w.heap.size, y, none⟩) (.inr (Nat.le_refl _)) (.bool true))
                      have HT2 := Lib.hid (HT.out.upd ((Upd.refl [w.heap.size] wq).setCell (p := ⟨w.heap.size, y, none⟩) (.inl (by simp)) (.bool true)) (fun q hq hm => by
                        simp at hm
                        subst hm
                        exact own_heap_ne HT.out HB.out (by decide) hq))
                      have hbnd := HW2.out.bound
                      have hsz2 : (wq.setCell ⟨w.heap.size, y, none⟩ (.bool true)).heap.size = wq.heap.size := by simp [World.setCell]
                      have hwq := HU.out.size
                      obtain ⟨tp, tc2, rfl⟩ := HT.out.shape
                      have hil : (ints todo).length ≤ 1000 := by
                        rw [ints_len]
                        rw [List.length_append] at hbnd
                        omega
                      clear hb2 hgs hsy HNK HSK HS hnoy hyd hbnd
                      have HSZ := Lib.hid hsz2
                      clear hsz2
                      go_wp2_with (at_builtin; refine stop_here ?_)
                      refine Hid.mk ?_
                      have hsz2 := HSZ.out
                      have hT2 := HT2.out
                      have hcn := cell_of (heap_alloc_new (wq.setCell ⟨w.heap.size, y, none⟩ (.bool true)) (.cells #[.int .i64 (y : Int)] 3))
                      rw [hsz2] at hcn
                      refine (wpList_append_own_at _ rfl _ _ 27 rfl w.heap.size 3 i0 (.int .i64 0) 1 8 Tryd.underlying27 HI.out HZ0.out HZ1.out HZ2.out rfl (by decide) _ _ _ rfl (hT2.alloc (.cells #[.int .i64 (y : Int)] 3)) ⟨wq.heap.size, 0, none⟩ 1 1 [.int .i64 (y : Int)] rfl rfl ?c1 ?c2 ?c3 ?c4 ?c5 ?c6)
                      case c1 =>
                        intro jj uu hjj
                        rw [Addr.add_lit, Nat.zero_add, hcn]
                        simpa using hjj
                      case c2 => simp [Value.oneCell']
                      case c3 => unfold maxLen; omega
                      case c4 => omega
                      case c5 => simp; omega
                      case c6 =>
                        intro v' w6 hown hgr _ hat
                        have hU6 := (HU2.out.alloc (.cells #[.int .i64 (y : Int)] 3)).grown hgr (fun q hq => .inr (HT2.out.lt q hq).1)
                        have hB6 := (((Upd.refl (Value.slice tp (ints todo).length tc2).ownBlock.toList (wq.setCell ⟨w.heap.size, y, none⟩ (.bool true))).alloc (.cells #[.int .i64 (y : Int)] 3)).grown hgr (fun q hq => .inl (Option.mem_toList.2 hq))).heap HB2.out (fun hm => own_heap_ne HT.out HB.out (by decide) (Option.mem_toList.1 hm))
                        have hO6 := OwnI.snoc hown
                        rw [← ints_snoc] at hO6
                        have HO6 := Lib.hid hO6
                        have HB6 := Lib.hid hB6
                        have HU6 := Lib.hid hU6
                        obtain ⟨g', cap', rfl⟩ := ownsRow_succ hown
                        clear hown hgr hat hO6 hB6 hU6 hcn hT2 hsz2 hy hrc hsc hfs
                        go_wp2_with fail
                        go_roundw
                        case rel => exact ⟨k + 1, todo ++ [y], seen.set y true, by omega, by go_num, HO6, HB6, HW2, HIS2, HS2, by rw [List.length_append, List.length_singleton]; omega, HU6⟩
                        case measure => simp [intOf]; omega
                · have e1 : decide (x < (g.length : Int)) = false := decide_eq_false hxn
                  have HS2 := Lib.hid (HSK.out seen (fun _ h => h) (fun z e h3 _ => by omega))
                  clear HNK HSK HS
                  go_wp2_with fail
                  go_roundw
                  case rel => exact ⟨k + 1, todo, seen, by omega, by go_num, HT, HB, HW, HIS, HS2, hle, HU⟩
                  case measure => simp [intOf]; omega
              · have e0 : decide (0 ≤ x) = false := decide_eq_false hx0
                have e0' : decide (x ≥ 0) = false := decide_eq_false hx0
                have HS2 := Lib.hid (HSK.out seen (fun _ h => h) (fun z e _ _ => by omega))
                clear HNK HSK HS
                go_wp2_with fail
                go_roundw
                case rel => exact ⟨k + 1, todo, seen, by omega, by go_num, HT, HB, HW, HIS, HS2, hle, HU⟩
                case measure => simp [intOf]; omega
            · obtain rfl : k = row.length := by omega
              have HW3 := Lib.hid (HW.out.close (fun y hy => by
                obtain ⟨k2, h1, h2, h3, h4⟩ := HNXI.out y hy
                exact HS.out k2 h1 y h2 h3 h4))
              have HRD2 : Hid (rdB wq w.heap.size = seen) := rdB_of HB.out
              obtain ⟨tp, tc2, rfl⟩ := HT.out.shape
              have HIL : Hid ((ints todo).length = todo.length) := ints_len _
              clear HW HIS HS
              go_wp2_with fail
              go_roundw
              case rel => exact ⟨todo, seen, HT.out, HB.out, HW3.out, HU.out⟩
              case measure =>
                rw [HRD2.out, HMU.out]
                simp only [sliceN, HIL.out]
                omega

end Go.Proofs.YtjjkliifpdcliaaDoor
