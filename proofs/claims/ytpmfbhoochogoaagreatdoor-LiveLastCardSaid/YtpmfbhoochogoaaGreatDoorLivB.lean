/- A live map's sets, in memory. live.Map.behind, ahead: what is still asked for behind an instruction, and ahead of it, as it is known. -/
import Derived.Test.YtpmfbhoochogoaaGreatDoorLivP
import Derived.Test.YtpmfbhoochogoaaGreatDoorBits
import Derived.Test.YtpmfbhoochogoaaGreatDoorOwnNe
import Derived.Test.YtpmfbhoochogoaaGreatDoorAccA
import Derived.Test.YtpmfbhoochogoaaGreatDoorNext
import Derived.Test.YtpmfbhoochogoaaGreatDoorJoinB
/-! A live map's sets, in memory. -/
/-! A live map's sets, in memory. -/
namespace Go.Proofs.YtpmfbhoochogoaaGreatDoor
open Go.RowKit

def ptrV (seen : Nat → Bool) (bs : Nat → Nat) (i : Nat) : Value := if seen i = true then .pointer (some ⟨bs i, 0, none⟩) else .pointer none
def ptrs (n : Nat) (seen : Nat → Bool) (bs : Nat → Nat) : Array Value := ((List.range n).map (ptrV seen bs)).toArray
theorem ptrs_get (n : Nat) (seen : Nat → Bool) (bs : Nat → Nat) (i : Nat) (h : i < n) : (ptrs n seen bs)[i]? = some (ptrV seen bs i) := by
  simp [ptrs, h]
theorem ptrs_size (n : Nat) (seen : Nat → Bool) (bs : Nat → Nat) : (ptrs n seen bs).size = n := by simp [ptrs]
/-- Those that have been looked at. -/
def upto (seen : Nat → Bool) (j : Nat) : Nat → Bool := fun i => decide (i < j) && seen i
theorem ptrs_ext {n : Nat} {A : Array Value} {seen : Nat → Bool} {bs : Nat → Nat} (hs : A.size = n) (h : ∀ i, i < n → A[i]? = some (ptrV seen bs i)) : A = ptrs n seen bs := by
  apply Array.ext_getElem?
  intro i
  by_cases hi : i < n
  · rw [h i hi, ptrs_get _ _ _ _ hi]
  · rw [Array.getElem?_eq_none (by omega), Array.getElem?_eq_none (by rw [ptrs_size]; omega)]
theorem ptrs_zero (n : Nat) (seen : Nat → Bool) (bs : Nat → Nat) : (List.replicate n (Value.pointer none)).toArray = ptrs n (upto seen 0) bs := by
  refine ptrs_ext (by simp) (fun i hi => ?_)
  simp [hi, ptrV, upto]
theorem ptrs_skip (n : Nat) (seen : Nat → Bool) (bs : Nat → Nat) (j : Nat) (h : seen j = false) : ptrs n (upto seen j) bs = ptrs n (upto seen (j + 1)) bs := by
  refine ptrs_ext (ptrs_size _ _ _) (fun i hi => ?_)
  rw [ptrs_get _ _ _ _ hi]
  unfold ptrV upto
  by_cases e : i = j
  · subst e; rw [h]; simp
  · have : decide (i < j) = decide (i < j + 1) := by rw [decide_eq_decide]; omega
    rw [this]
theorem ptrs_put (n : Nat) (seen : Nat → Bool) (bs : Nat → Nat) (j b : Nat) (h : seen j = true) (hj : j < n) : (ptrs n (upto seen j) bs).setIfInBounds j (.pointer (some ⟨b, 0, none⟩)) = ptrs n (upto seen (j + 1)) (fun i => if i = j then b else bs i) := by
  refine ptrs_ext (by rw [Array.size_setIfInBounds, ptrs_size]) (fun i hi => ?_)
  rw [Array.getElem?_setIfInBounds, ptrs_size, ptrs_get _ _ _ _ hi]
  unfold ptrV upto
  by_cases e : i = j
  · subst e; simp [h, hj]
  · rw [if_neg (by omega)]
    have : decide (i < j) = decide (i < j + 1) := by rw [decide_eq_decide]; omega
    simp only [this, if_neg e]

/-- A map's sets. -/
structure LSets (w : World) (B lb n nk : Nat) (seen : Nat → Bool) (F : Nat → Nat → Bool) (bs gs : Nat → Nat) : Prop where
  tab : w.heap[lb]? = some (.cells (ptrs n seen bs) 148)
  set : ∀ i, i < n → seen i = true → ∃ ws, SetAt w (bs i) (gs i) nk ws ∧ ∀ k, bhas ws k = F i k
  zero : ∀ i, seen i = false → ∀ k, F i k = false
  far : ∀ i, i < n → seen i = true → B ≤ gs i ∧ B ≤ bs i
  inj : ∀ i j, i < n → j < n → seen i = true → seen j = true → gs i = gs j → i = j
theorem LSets.lb_lt {w : World} {B lb n nk : Nat} {seen : Nat → Bool} {F : Nat → Nat → Bool} {bs gs : Nat → Nat} (h : LSets w B lb n nk seen F bs gs) : lb < w.heap.size := lt_of_heap h.tab
theorem LSets.cell {w : World} {B lb n nk : Nat} {seen : Nat → Bool} {F : Nat → Nat → Bool} {bs gs : Nat → Nat} (h : LSets w B lb n nk seen F bs gs) (i : Nat) (hi : i < n) : w.cell? ⟨lb, i, none⟩ = some (ptrV seen bs i) := by
  rw [cell_of h.tab, ptrs_get _ _ _ _ hi]
theorem LSets.upd {w w' : World} {B lb n nk : Nat} {seen : Nat → Bool} {F : Nat → Nat → Bool} {bs gs : Nat → Nat} {S : List Nat} (h : LSets w B lb n nk seen F bs gs) (hu : Upd S w w') (h1 : lb ∉ S) (h2 : ∀ i, i < n → seen i = true → gs i ∉ S ∧ bs i ∉ S) : LSets w' B lb n nk seen F bs gs :=
  ⟨hu.heap h.tab h1, fun i hi hs => by obtain ⟨ws, h3, h4⟩ := h.set i hi hs; exact ⟨ws, h3.upd hu (h2 i hi hs).2 (h2 i hi hs).1, h4⟩, h.zero, h.far, h.inj⟩
/-- Blocks of unlike kinds are not the same. -/
theorem heap_ne {w : World} {a b : Nat} {A B : Array Value} {s t : TypeId} (ha : w.heap[a]? = some (.cells A s)) (hb : w.heap[b]? = some (.cells B t)) (h : s ≠ t) : a ≠ b := by
  rintro rfl
  rw [ha] at hb
  injection hb with hb
  injection hb with _ hb _
  exact h hb
theorem LSets.gs_lb {w : World} {B lb n nk : Nat} {seen : Nat → Bool} {F : Nat → Nat → Bool} {bs gs : Nat → Nat} (h : LSets w B lb n nk seen F bs gs) (i : Nat) (hi : i < n) (hs : seen i = true) : gs i ≠ lb := by
  obtain ⟨ws, h3, _⟩ := h.set i hi hs
  exact heap_ne h3.2.1 h.tab (by decide)
theorem LSets.gs_bs {w : World} {B lb n nk : Nat} {seen : Nat → Bool} {F : Nat → Nat → Bool} {bs gs : Nat → Nat} (h : LSets w B lb n nk seen F bs gs) (i j : Nat) (hi : i < n) (hj : j < n) (hs : seen i = true) (hs2 : seen j = true) : gs i ≠ bs j := by
  obtain ⟨ws, h3, _⟩ := h.set i hi hs
  obtain ⟨ws2, h4, _⟩ := h.set j hj hs2
  exact heap_ne h3.2.1 h4.1 (by decide)
/-- One set is turned. -/
theorem LSets.put {w w' : World} {B lb n nk : Nat} {seen : Nat → Bool} {F : Nat → Nat → Bool} {bs gs : Nat → Nat} (h : LSets w B lb n nk seen F bs gs) {pc : Nat} (hpc : pc < n) (hs : seen pc = true) (hu : Upd [gs pc] w w') {ws : List Nat} (hw : SetAt w' (bs pc) (gs pc) nk ws) :
    LSets w' B lb n nk seen (putF F pc (bhas ws)) bs gs := by
  refine ⟨hu.heap h.tab (by simp; exact (h.gs_lb pc hpc hs).symm), fun i hi hsi => ?_, fun i hsi k => ?_, h.far, h.inj⟩
  · by_cases e : i = pc
    · subst e
      exact ⟨ws, hw, fun k => by unfold putF; rw [if_pos rfl]⟩
    · obtain ⟨ws2, h3, h4⟩ := h.set i hi hsi
      refine ⟨ws2, h3.upd hu (by simp; exact (h.gs_bs pc i hpc hi hs hsi).symm) (by simp; exact fun e2 => e (h.inj i pc hi hpc hsi hs e2)), fun k => ?_⟩
      rw [h4]; unfold putF; rw [if_neg e]
  · unfold putF
    rw [if_neg (by rintro rfl; rw [hs] at hsi; cases hsi)]
    exact h.zero i hsi k
theorem bhas_rep (m k : Nat) : bhas (List.replicate m 0) k = false := by
  unfold bhas
  rw [List.getD_eq_getElem?_getD, List.getElem?_replicate]
  split <;> simp
theorem LSets.start {w : World} {lb n nk : Nat} (B : Nat) (seen : Nat → Bool) (h : w.heap[lb]? = some (.cells (List.replicate n (Value.pointer none)).toArray 148)) : LSets w B lb n nk (upto seen 0) (fun _ _ => false) (fun _ => 0) (fun _ => 0) := by
  rw [ptrs_zero n seen (fun _ => 0)] at h
  exact ⟨h, fun i _ hs => by simp [upto] at hs, fun _ _ _ => rfl, fun i _ hs => by simp [upto] at hs, fun i j _ _ hs => by simp [upto] at hs⟩
theorem upto_lt {seen : Nat → Bool} {j i : Nat} (h : upto seen (j + 1) i = true) (e : i ≠ j) : upto seen j i = true := by
  unfold upto at h ⊢
  simp only [Bool.and_eq_true, decide_eq_true_eq] at h ⊢
  exact ⟨by omega, h.2⟩
theorem LSets.skip {w : World} {B lb n nk : Nat} {seen : Nat → Bool} {bs gs : Nat → Nat} {j : Nat} (h : LSets w B lb n nk (upto seen j) (fun _ _ => false) bs gs) (hs : seen j = false) : LSets w B lb n nk (upto seen (j + 1)) (fun _ _ => false) bs gs := by
  have e : ∀ i, upto seen (j + 1) i = true → upto seen j i = true := fun i hi => upto_lt hi (by rintro rfl; simp [upto, hs] at hi)
  exact ⟨by rw [← ptrs_skip n seen bs j hs]; exact h.tab, fun i hi hsi => h.set i hi (e i hsi), fun _ _ _ => rfl, fun i hi hsi => h.far i hi (e i hsi), fun i k hi hk h1 h2 h3 => h.inj i k hi hk (e i h1) (e k h2) h3⟩
/-- A new set. -/
theorem LSets.new {w w1 : World} {B lb n nk : Nat} {seen : Nat → Bool} {bs gs : Nat → Nat} {j b g : Nat} (h : LSets w B lb n nk (upto seen j) (fun _ _ => false) bs gs) (hs : seen j = true) (hj : j < n) (hu : Upd [] w w1) (hb : w.heap.size ≤ b) (hg : w.heap.size ≤ g) (hB : B ≤ w.heap.size) (hn : SetAt w1 b g nk (List.replicate ((nk + 63) / 64) 0)) :
    LSets (w1.setCell ⟨lb, j, none⟩ (.pointer (some ⟨b, 0, none⟩))) B lb n nk (upto seen (j + 1)) (fun _ _ => false) (fun i => if i = j then b else bs i) (fun i => if i = j then g else gs i) := by
  have h1 := h.upd hu (by simp) (by simp)
  have hst := (Upd.refl [lb] w1).setCell (p := ⟨lb, j, none⟩) (.inl (by simp)) (.pointer (some ⟨b, 0, none⟩))
  have hll := h.lb_lt
  have hold : ∀ i, i < n → upto seen j i = true → gs i < w.heap.size := fun i hi hsi => by
    obtain ⟨ws, h2, _⟩ := h.set i hi hsi
    exact lt_of_heap h2.2.1
  refine ⟨?_, fun i hi hsi => ?_, fun _ _ _ => rfl, fun i hi hsi => ?_, fun i k hi hk hsi hsk e => ?_⟩
  · rw [← ptrs_put n seen bs j b hs hj]
    exact heap_setCell h1.tab j _
  · by_cases e : i = j
    · subst e
      rw [if_pos rfl, if_pos rfl]
      exact ⟨_, hn.upd hst (by simp; omega) (by simp; omega), bhas_rep _⟩
    · rw [if_neg e, if_neg e]
      obtain ⟨ws, h2, h3⟩ := h1.set i hi (upto_lt hsi e)
      exact ⟨ws, h2.upd hst (by simp; exact heap_ne h2.1 h1.tab (by decide)) (by simp; exact heap_ne h2.2.1 h1.tab (by decide)), h3⟩
  · by_cases e : i = j
    · subst e
      rw [if_pos rfl, if_pos rfl]
      omega
    · rw [if_neg e, if_neg e]
      exact h.far i hi (upto_lt hsi e)
  · by_cases e1 : i = j
    · subst e1
      by_cases e2 : k = i
      · exact e2.symm
      · rw [if_pos rfl, if_neg e2] at e
        have := hold k hk (upto_lt hsk e2)
        omega
    · by_cases e2 : k = j
      · subst e2
        rw [if_neg e1, if_pos rfl] at e
        have := hold i hi (upto_lt hsi e1)
        omega
      · rw [if_neg e1, if_neg e2] at e
        exact h.inj i k hi hk (upto_lt hsi e1) (upto_lt hsk e2) e

/-- What a map's sets say, read from the world. -/
def bitW (w : World) (lb i k : Nat) : Bool := match w.cell? ⟨lb, i, none⟩ with
  | some (.pointer (some a)) => (match w.cell? ⟨a.block, 1, none⟩ with
    | some (.slice (some g) _ _) => (match w.cell? ⟨g.block, k / 64, none⟩ with
      | some (.int _ x) => x.toNat.testBit (k % 64)
      | _ => false)
    | _ => false)
  | _ => false
theorem LSets.bit {w : World} {B lb n nk : Nat} {seen : Nat → Bool} {F : Nat → Nat → Bool} {bs gs : Nat → Nat} (h : LSets w B lb n nk seen F bs gs) (i k : Nat) (hi : i < n) (hk : k < nk) : bitW w lb i k = F i k := by
  unfold bitW
  rw [h.cell i hi]
  unfold ptrV
  by_cases hs : seen i = true
  · rw [if_pos hs]
    obtain ⟨ws, h1, h2⟩ := h.set i hi hs
    have hl := h1.2.2.2.1
    simp only [h1.c1, h1.word (k / 64) (by omega), ← h2]
    rfl
  · rw [if_neg hs]
    exact (h.zero i (by simpa using hs) k).symm
theorem LSets.cnt {w : World} {B lb n nk : Nat} {seen : Nat → Bool} {F : Nat → Nat → Bool} {bs gs : Nat → Nat} (h : LSets w B lb n nk seen F bs gs) : cntF n nk (bitW w lb) = cntF n nk F := cntF_congr fun i k hi hk => h.bit i k hi hk
end Go.Proofs.YtpmfbhoochogoaaGreatDoor

/-! live.Map.behind, ahead: what is still asked for behind an instruction, and ahead of it, as it is known. -/
/-! live.Map.behind, ahead. -/
namespace Go.Proofs.YtpmfbhoochogoaaGreatDoor
open Go.RowKit

/-- A map's cells. -/
def mapCells (ib : Nat) (k d st : Int) (m : Meth) (kv lv : Value) : Array Value := #[.pointer (some ⟨ib, 0, none⟩), .int .i64 k, .int .u32 d, .int .i32 st, .int .u32 0, .string m.params, .string m.locals, .string m.ret, kv, lv]

theorem live_of (ib : Nat) (k : Int) (w : World) :
    Calls Tryz.prog 35 #[.pointer (some ⟨ib, 0, none⟩), .int .i64 k] w fun e w' => e = .returned (.pointer (some ⟨w.heap.size, 0, none⟩)) ∧ w' = w.alloc (.cells (mapCells ib k 0 0 ⟨⟨#[]⟩, ⟨#[]⟩, ⟨#[]⟩, []⟩ (.slice none 0 0) (.slice none 0 0)) 147) := by
  go_enter Tryz.func35, Tryz.ntmps35
  go_wp2_with fail
  go_ret
  exact ⟨rfl, rfl⟩

theorem nextL_two (xs : List Ins) (pc : Int) : (nextL xs pc).length ≤ 2 := by
  unfold nextL
  repeat' split
  all_goals simp
theorem any_take_succ (p : Int → Bool) (L : List Int) (j : Nat) (h : j < L.length) : (L.take (j + 1)).any p = ((L.take j).any p || p (L.getD j 0)) := by
  rw [List.take_succ_eq_append_getElem h, List.any_append, List.getD_eq_getElem?_getD, List.getElem?_eq_getElem h]
  simp

/-- What the methods of a map that has been worked out read. -/
structure MapIn (w : World) (B mb lb ib nk : Nat) (k d st : Int) (m : Meth) (kv : Value) (seen : Nat → Bool) (F : Nat → Nat → Bool) (bk gk : Nat → Nat) : Prop where
  box : w.heap[mb]? = some (.cells (mapCells ib k d st m kv (.slice (some ⟨lb, 0, none⟩) m.code.length m.code.length)) 147)
  code : CodeAt w kv m.code
  sets : LSets w B lb m.code.length nk seen F bk gk
  tz : TzAt w
  kinds : (kindsL m).length = nk
  par : m.params.size ≤ 12
  loc : m.locals.size ≤ 12
  few : m.code.length ≤ 120
  next : ∀ pc, ∀ q ∈ nextL m.code pc, 0 ≤ q
theorem MapIn.upd {w w' : World} {B mb lb ib nk : Nat} {k d st : Int} {m : Meth} {kv : Value} {seen : Nat → Bool} {F : Nat → Nat → Bool} {bk gk : Nat → Nat} (h : MapIn w B mb lb ib nk k d st m kv seen F bk gk) (hu : Upd [] w w') : MapIn w' B mb lb ib nk k d st m kv seen F bk gk :=
  ⟨hu.heap h.box (by simp), h.code.upd hu, h.sets.upd hu (by simp) (by simp), h.tz.upd hu (by simp), h.kinds, h.par, h.loc, h.few, h.next⟩
theorem MapIn.nk_le {w : World} {B mb lb ib nk : Nat} {k d st : Int} {m : Meth} {kv : Value} {seen : Nat → Bool} {F : Nat → Nat → Bool} {bk gk : Nat → Nat} (h : MapIn w B mb lb ib nk k d st m kv seen F bk gk) : nk ≤ 24 := by
  have h1 := h.kinds
  have h2 := h.par
  have h3 := h.loc
  unfold kindsL at h1
  rw [List.length_append, ← size_list, ← size_list] at h1
  omega

set_option maxRecDepth 100000 in
set_option maxHeartbeats 4000000 in
theorem behind_any (B mb lb ib nk : Nat) (k d st : Int) (m : Meth) (kv : Value) (seen : Nat → Bool) (F : Nat → Nat → Bool) (bk gk : Nat → Nat) (pc : Int) (w : World) (h : MapIn w B mb lb ib nk k d st m kv seen F bk gk) :
    Calls Tryz.prog 73 #[.pointer (some ⟨mb, 0, none⟩), .int .i64 pc] w fun e w' => ∃ b g ws, e = .returned (.pointer (some ⟨b, 0, none⟩)) ∧ SetAt w' b g nk ws ∧ (∀ k, bhas ws k = (nextL m.code pc).any fun q => decide (q < m.code.length) && (seen q.toNat && F q.toNat k)) ∧ w.heap.size ≤ b ∧ w.heap.size ≤ g ∧ Upd [] w w' := by
  have hnk := h.nk_le
  have H := Lib.hid h
  have HKS := Lib.hid h.kinds
  obtain ⟨ka, kc, rfl, hkl⟩ := id h.code
  clear hkl
  have hb := h.box
  have m5 : w.cell? ⟨mb, 5, none⟩ = some (.string m.params) := by rw [cell_of hb]; rfl
  have m6 : w.cell? ⟨mb, 6, none⟩ = some (.string m.locals) := by rw [cell_of hb]; rfl
  have m7 : w.cell? ⟨mb, 7, none⟩ = some (.string m.ret) := by rw [cell_of hb]; rfl
  have m8 : w.cell? ⟨mb, 8, none⟩ = some (.slice ka m.code.length kc) := by rw [cell_of hb]; rfl
  have hpar := h.par
  have hloc := h.loc
  have hfew := h.few
  clear h hb
  go_enter Tryz.func73, Tryz.ntmps73
  go_wp2_with fail
  refine (kinds_any m (.slice ka m.code.length kc) w (by omega) (by omega)).mono ?_
  rintro e w1 ⟨rfl, hu1⟩
  have H1 := Lib.hid (H.out.upd hu1)
  have HTZ := Lib.hid H1.out.tz.lt
  have HU1 := Lib.hid hu1
  have hu1s := hu1.size
  have m5 := hu1.cell m5 (by simp)
  have m6 := hu1.cell m6 (by simp)
  have m7 := hu1.cell m7 (by simp)
  have m8 := hu1.cell m8 (by simp)
  have HBN := Lib.hid (bnew nk w1 (by omega))
  have HKZ : Hid ((bs (kindsL m)).size = nk) := by show _ = _; rw [bs_size, HKS.out]
  clear hu1
  go_wp2_with fail
  rw [HKZ.out]
  refine HBN.out.mono ?_
  rintro e w2 ⟨rfl, hset, hu2, hsz2⟩
  have H2 := Lib.hid (H1.out.upd hu2)
  have HU2 := Lib.hid (HU1.out.trans hu2)
  have HSET := Lib.hid hset
  have m5 := hu2.cell m5 (by simp)
  have m6 := hu2.cell m6 (by simp)
  have m7 := hu2.cell m7 (by simp)
  have m8 := hu2.cell m8 (by simp)
  have HNX := Lib.hid (next_any m.params m.locals m.ret (.slice ka m.code.length kc) m.code pc w2 H2.out.code (by omega))
  clear hu2 hset HBN H1 HU1
  go_wp2_with fail
  refine HNX.out.mono ?_
  rintro e w3 ⟨u, rfl, hun, hu3⟩
  obtain ⟨up, uc, rfl⟩ := hun.shape
  have hl2 := nextL_two m.code pc
  have hnn := H2.out.next pc
  generalize hle : nextL m.code pc = L at hun hl2 hnn
  have HLE := Lib.hid hle
  clear hle
  have HUN := Lib.hid hun
  have HU3 := Lib.hid (HU2.out.trans hu3)
  have HSET3 := Lib.hid (HSET.out.upd hu3 (by simp) (by simp))
  have hsz3 := hu3.size
  have HNN := Lib.hid hnn
  have H0 := H
  clear hu3 hun HU2 HSET H2 HNX H m5 m6 m7 m8 HKZ HKS hnn
  go_wp2_with fail
  go_loopw [22] (fun iv wr => ∃ (j : Nat) (ws : List Nat), j ≤ L.length ∧ iv = .int .i64 j ∧ Hid (SetAt wr (w1.heap.size + 1) w1.heap.size nk ws) ∧ Hid (∀ k, bhas ws k = (L.take j).any fun q => decide (q < m.code.length) && (seen q.toNat && F q.toNat k)) ∧ Hid (Upd [w1.heap.size] w3 wr)) (fun iv _ => L.length - (intOf iv).toNat)
  case atStart => exact ⟨0, _, by omega, rfl, HSET3.out, fun k => by rw [bhas_zero]; simp, Upd.refl _ _⟩
  case round =>
    obtain ⟨j, ws, hj, rfl, HS, HW, HU⟩ := hrel
    obtain ⟨wo, rfl⟩ : ∃ wo : World, wo = wr := ⟨_, rfl⟩
    have HUx : Hid (Upd [] w wo) := HU3.out.trans' HU.out (fun q hq hl => by simp at hq; omega)
    have HO := Lib.hid (H0.out.upd HUx.out)
    clear HSET3 H0
    by_cases hlt : j < L.length
    · obtain ⟨gu, hgu, hcu⟩ : ∃ gu, up = some ⟨gu, 0, none⟩ ∧ wo.cell? ⟨gu, j, none⟩ = some (.int .i64 (L.getD j 0)) := by
        rcases (HUN.out.upd HU.out (fun k hk => by
          rcases HUN.out.form with ⟨h1, h2⟩ | ⟨g, c, h1, h2, h3, h4, h5⟩
          · injection h1 with h1; subst h1; simp [Value.ownBlock] at hk
          · injection h1 with h1; subst h1; simp [Value.ownBlock] at hk; subst hk; simp; omega)).form with ⟨h1, h2⟩ | ⟨g, c, h1, h2, h3, h4, h5⟩
        · rw [h2] at hlt; simp at hlt
        · injection h1 with h1
          exact ⟨g, h1, h5 j hlt⟩
      subst hgu
      obtain ⟨q, hq⟩ : ∃ q : Nat, L.getD j 0 = (q : Int) := Int.eq_ofNat_of_zero_le (HNN.out _ (by rw [List.getD_eq_getElem?_getD, List.getElem?_eq_getElem hlt]; exact List.getElem_mem hlt))
      have HQ := Lib.hid hq
      rw [hq] at hcu
      clear hq
      have m9 : wo.cell? ⟨mb, 9, none⟩ = some (.slice (some ⟨lb, 0, none⟩) m.code.length m.code.length) := by rw [cell_of HO.out.box]; rfl
      by_cases hqn : q < m.code.length
      · have hl := HO.out.sets.cell q hqn
        unfold ptrV at hl
        by_cases hs : seen q = true
        · rw [if_pos hs] at hl
          obtain ⟨vs, hv1, hv2⟩ := HO.out.sets.set q hqn hs
          have HV2 := Lib.hid hv2
          have HJ := Lib.hid (bjoin_any (w1.heap.size + 1) w1.heap.size nk (bk q) (gk q) nk ws vs wo HS.out hv1 HO.out.tz (by have := HTZ.out; omega) (by omega))
          clear hv1 hv2
          go_wp2_with fail
          refine HJ.out.mono ?_
          rintro e w5 ⟨av, ws5, rfl, hs5, hget, _, _, hu5⟩
          have HS5 := Lib.hid hs5
          have HU5 := Lib.hid (HU.out.trans hu5)
          have HW5 : Hid (∀ k, bhas ws5 k = (L.take (j + 1)).any fun q => decide (q < m.code.length) && (seen q.toNat && F q.toNat k)) := by
            intro k
            rw [any_take_succ _ _ _ hlt, HQ.out, hget, HW.out k, HV2.out k, Int.toNat_natCast, hs, decide_eq_true (by omega : (q : Int) < (m.code.length : Int))]
            have h7 : (decide (k < nk) && F q k) = F q k := by
              cases hF : F q k with
              | false => simp
              | true =>
                obtain ⟨vs, hv1, hv2⟩ := HO.out.sets.set q hqn hs
                rw [← hv2] at hF
                rw [decide_eq_true (hv1.2.2.2.2.2 k hF)]; rfl
            rw [h7]; simp
          clear hs5 hget hu5 HJ
          go_wp2_with fail
          go_roundw
          case rel => exact ⟨j + 1, ws5, by omega, by go_num, HS5.out, HW5.out, HU5.out⟩
          case measure => simp [intOf]; omega
        · rw [if_neg hs] at hl
          have HW5 : Hid (∀ k, bhas ws k = (L.take (j + 1)).any fun q => decide (q < m.code.length) && (seen q.toNat && F q.toNat k)) := by
            intro k
            rw [any_take_succ _ _ _ hlt, HQ.out, HW.out k, Int.toNat_natCast]
            have : seen q = false := by simpa using hs
            rw [this]; simp
          go_wp2_with fail
          go_roundw
          case rel => exact ⟨j + 1, ws, by omega, by go_num, HS.out, HW5.out, HU.out⟩
          case measure => simp [intOf]; omega
      · have HW5 : Hid (∀ k, bhas ws k = (L.take (j + 1)).any fun q => decide (q < m.code.length) && (seen q.toNat && F q.toNat k)) := by
          intro k
          rw [any_take_succ _ _ _ hlt, HQ.out, HW.out k, decide_eq_false (by omega : ¬ (q : Int) < (m.code.length : Int))]
          simp
        go_wp2_with fail
        go_roundw
        case rel => exact ⟨j + 1, ws, by omega, by go_num, HS.out, HW5.out, HU.out⟩
        case measure => simp [intOf]; omega
    · obtain rfl : j = L.length := by omega
      have HW5 : Hid (∀ k, bhas ws k = (nextL m.code pc).any fun q => decide (q < m.code.length) && (seen q.toNat && F q.toNat k)) := by
        intro k
        rw [HW.out k, List.take_length, HLE.out]
      go_wp2_with fail
      go_ret
      exact ⟨_, _, ws, rfl, HS.out, HW5.out, by omega, by omega, HUx.out⟩

set_option maxRecDepth 100000 in
set_option maxHeartbeats 4000000 in
theorem ahead_any (B mb lb ib nk : Nat) (k d st : Int) (m : Meth) (kv : Value) (seen : Nat → Bool) (F : Nat → Nat → Bool) (bk gk : Nat → Nat) (pc : Nat) (w : World) (h : MapIn w B mb lb ib nk k d st m kv seen F bk gk) (hpc : pc < m.code.length) :
    Calls Tryz.prog 111 #[.pointer (some ⟨mb, 0, none⟩), .int .i64 pc] w fun e w' => ∃ b g ws, e = .returned (.pointer (some ⟨b, 0, none⟩)) ∧ SetAt w' b g nk ws ∧ (∀ k, bhas ws k = ahF m.code seen nk F pc k) ∧ w.heap.size ≤ b ∧ w.heap.size ≤ g ∧ Upd [] w w' := by
  have H := Lib.hid h
  have HBH := Lib.hid (behind_any B mb lb ib nk k d st m kv seen F bk gk pc w h)
  have hfew := h.few
  clear h
  go_enter Tryz.func111, Tryz.ntmps111
  go_wp2_with fail
  refine HBH.out.mono ?_
  rintro e w1 ⟨b, g, ws, rfl, hset, hget, hb, hg, hu1⟩
  have HGET : Hid (∀ k, bhas ws k = behF m.code seen F pc k) := hget
  have H1 := H.out.upd hu1
  obtain ⟨ka, kc, rfl, hkl, hkm, hx⟩ := id H1.code
  obtain ⟨cb, co, rfl, hbd, hi0, hi1, hi2, hi3⟩ := hx pc hpc
  have m8 : w1.cell? ⟨mb, 8, none⟩ = some (.slice (some ⟨cb, co, none⟩) m.code.length kc) := by rw [cell_of H1.box]; rfl
  have HX : ∀ k, ahF m.code seen nk F pc k = ((behF m.code seen F pc k && !(decide ((m.code.getD pc default).op = 4) && decide ((m.code.getD pc default).a = (k : Int)))) || (decide ((m.code.getD pc default).op = 3) && (decide (k < nk) && decide ((m.code.getD pc default).a = (k : Int))))) := fun _ => rfl
  have HX := Lib.hid HX
  have HSET := Lib.hid hset
  have HU1 := Lib.hid hu1
  clear hget hx H1 H HBH hbd hkm hset hu1
  generalize m.code.getD pc default = x at hi0 hi1 hi2 hi3 HX
  obtain ⟨op, xa, xb, xn⟩ := x
  simp only at hi0 hi1 hi2 hi3 HX
  have hua := (Upd.refl [] w1).alloc (.cells #[.int .i64 op, .int .i64 xa, .int .i64 xb, .int .i64 xn] 24)
  have HSA := Lib.hid (HSET.out.upd hua (by simp) (by simp))
  have HUA := Lib.hid (HU1.out.trans hua)
  have hs1 := HU1.out.size
  have hlb := lt_of_heap HSET.out.1
  have hlg := lt_of_heap HSET.out.2.1
  clear hua HSET HU1
  by_cases h4 : op = 4
  · subst h4
    have HD := Lib.hid (drop_any b g nk xa ws _ HSA.out)
    go_wp2_with fail
    refine HD.out.mono ?_
    rintro e w2 ⟨ws2, rfl, hs2, hg2, hu2⟩
    go_wp2_with fail
    go_ret
    refine ⟨b, g, ws2, rfl, hs2, fun k => ?_, hb, hg, HUA.out.trans' hu2 (fun q hq hl => by simp at hq; omega)⟩
    rw [hg2, HGET.out, HX.out]
    simp
  by_cases h3 : op = 3
  · subst h3
    have HD := Lib.hid (add_any b g nk xa ws _ HSA.out)
    clear h4
    go_wp2_with fail
    refine HD.out.mono ?_
    rintro e w2 ⟨r, ws2, rfl, hs2, hg2, hu2⟩
    go_wp2_with fail
    go_ret
    refine ⟨b, g, ws2, rfl, hs2, fun k => ?_, hb, hg, HUA.out.trans' hu2 (fun q hq hl => by simp at hq; omega)⟩
    rw [hg2, HGET.out, HX.out]
    simp
  · have d4 : (op == 4) = false := by simpa using h4
    have d3 : (op == 3) = false := by simpa using h3
    have e4 : decide (op = 4) = false := decide_eq_false h4
    have e3 : decide (op = 3) = false := decide_eq_false h3
    have HE4 := Lib.hid e4
    have HE3 := Lib.hid e3
    clear h4 h3 e4 e3
    go_wp2_with fail
    go_ret
    refine ⟨b, g, ws, rfl, HSA.out, fun k => ?_, hb, hg, HUA.out⟩
    rw [HGET.out, HX.out, HE4.out, HE3.out]
    simp
end Go.Proofs.YtpmfbhoochogoaaGreatDoor
