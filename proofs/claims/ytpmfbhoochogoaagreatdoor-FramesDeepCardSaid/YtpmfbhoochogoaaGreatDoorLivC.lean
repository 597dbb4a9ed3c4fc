/- A live map's sets, in memory. live.Map.behind, ahead: what is still asked for behind an instruction, and ahead of it, as it is known. verify.Info.Program; live.Map.work: which locals are live. live.Map.work: which locals are live. (Of a live map; turned from XOnce1; the two literal type numbers are *internal/sync.Mutex and unsafe.Pointer of the seat ZD of round 7.) sync.Once.Do with the lock free: not yet done (whatever the function does, as its contract says), and done. sync.Once.doSlow, Do: not yet done, the lock free: whatever the function does, as its contract says. live.Map.at: what is live ahead of an instruction, worked out once. live.Map.Locals, Has, Behind. -/
import Derived.Test.YtpmfbhoochogoaaGreatDoorLivP
import Derived.Test.YtpmfbhoochogoaaGreatDoorBits
import Derived.Test.YtpmfbhoochogoaaGreatDoorOwnNe
import Derived.Test.YtpmfbhoochogoaaGreatDoorAccA
import Derived.Test.YtpmfbhoochogoaaGreatDoorNext
import Derived.Test.YtpmfbhoochogoaaGreatDoorJoinB
import Derived.Test.YtpmfbhoochogoaaGreatDoorAtW
import Derived.Test.YtpmfbhoochogoaaGreatDoorInfoA
import Derived.Deep.RegionHeld3
import Derived.Test.YtpmfbhoochogoaaGreatDoorRows
import Derived.Test.YtpmfbhoochogoaaGreatDoorLib
import Derived.Defers
import Derived.Laws.Pointers
import Derived.Laws.LoneSync
import Derived.RegionCalls
import Derived.ChangeAlike
import Derived.Test.YtpmfbhoochogoaaGreatDoorListA
/-! A live map's sets, in memory. live.Map.behind, ahead: what is still asked for behind an instruction, and ahead of it, as it is known. -/
/-! A live map's sets, in memory. -/
/-! A live map's sets, in memory. -/
namespace Go.Proofs.YtpmfbhoochogoaaGreatDoor
open Go.RowKit

def ptrV (seen : Nat → Bool) (bs : Nat → Nat) (i : Nat) : Value := if seen i = true then .pointer (some ⟨bs i, 0, none⟩) else .pointer none
def ptrs (n : Nat) (seen : Nat → Bool) (bs : Nat → Nat) : Array Value := ((List.range n).map (ptrV seen bs)).toArray
theorem ptrs_get (n : Nat) (seen : Nat → Bool) (bs : Nat → Nat) (i : Nat) (h : i < n) : (ptrs n seen bs)[i]? = some (ptrV seen bs i) := by
  simp [ptrs, h]
theorem ptrs_size (n : Nat) (seen : Nat → Bool) (bs : Nat → Nat) : (ptrs n seen bs).size = n := by simp [ptrs]
/-- Those that have been looked at. -/
def upto (seen : Nat → Bool) (j : Nat) : Nat → Bool := fun i => decide (i < j) && seen i
theorem ptrs_ext {n : Nat} {A : Array Value} {seen : Nat → Bool} {bs : Nat → Nat} (hs : A.size = n) (h : ∀ i, i < n → A[i]? = some (ptrV seen bs i)) : A = ptrs n seen bs := by
  apply Array.ext_getElem?
  intro i
  by_cases hi : i < n
  · rw [h i hi, ptrs_get _ _ _ _ hi]
  · rw [Array.getElem?_eq_none (by omega), Array.getElem?_eq_none (by rw [ptrs_size]; omega)]
theorem ptrs_zero (n : Nat) (seen : Nat → Bool) (bs : Nat → Nat) : (List.replicate n (Value.pointer none)).toArray = ptrs n (upto seen 0) bs := by
  refine ptrs_ext (by simp) (fun i hi => ?_)
  simp [hi, ptrV, upto]
theorem ptrs_skip (n : Nat) (seen : Nat → Bool) (bs : Nat → Nat) (j : Nat) (h : seen j = false) : ptrs n (upto seen j) bs = ptrs n (upto seen (j + 1)) bs := by
  refine ptrs_ext (ptrs_size _ _ _) (fun i hi => ?_)
  rw [ptrs_get _ _ _ _ hi]
  unfold ptrV upto
  by_cases e : i = j
  · subst e; rw [h]; simp
  · have : decide (i < j) = decide (i < j + 1) := by rw [decide_eq_decide]; omega
    rw [this]
theorem ptrs_put (n : Nat) (seen : Nat → Bool) (bs : Nat → Nat) (j b : Nat) (h : seen j = true) (hj : j < n) : (ptrs n (upto seen j) bs).setIfInBounds j (.pointer (some ⟨b, 0, none⟩)) = ptrs n (upto seen (j + 1)) (fun i => if i = j then b else bs i) := by
  refine ptrs_ext (by rw [Array.size_setIfInBounds, ptrs_size]) (fun i hi => ?_)
  rw [Array.getElem?_setIfInBounds, ptrs_size, ptrs_get _ _ _ _ hi]
  unfold ptrV upto
  by_cases e : i = j
  · subst e; simp [h, hj]
  · rw [if_neg (by omega)]
    have : decide (i < j) = decide (i < j + 1) := by rw [decide_eq_decide]; omega
    simp only [this, if_neg e]

/-- A map's sets. -/
structure LSets (w : World) (B lb n nk : Nat) (seen : Nat → Bool) (F : Nat → Nat → Bool) (bs gs : Nat → Nat) : Prop where
  tab : w.heap[lb]? = some (.cells (ptrs n seen bs) 148)
  set : ∀ i, i < n → seen i = true → ∃ ws, SetAt w (bs i) (gs i) nk ws ∧ ∀ k, bhas ws k = F i k
  zero : ∀ i, seen i = false → ∀ k, F i k = false
  far : ∀ i, i < n → seen i = true → B ≤ gs i ∧ B ≤ bs i
  inj : ∀ i j, i < n → j < n → seen i = true → seen j = true → gs i = gs j → i = j
theorem LSets.lb_lt {w : World} {B lb n nk : Nat} {seen : Nat → Bool} {F : Nat → Nat → Bool} {bs gs : Nat → Nat} (h : LSets w B lb n nk seen F bs gs) : lb < w.heap.size := lt_of_heap h.tab
theorem LSets.cell {w : World} {B lb n nk : Nat} {seen : Nat → Bool} {F : Nat → Nat → Bool} {bs gs : Nat → Nat} (h : LSets w B lb n nk seen F bs gs) (i : Nat) (hi : i < n) : w.cell? ⟨lb, i, none⟩ = some (ptrV seen bs i) := by
  rw [cell_of h.tab, ptrs_get _ _ _ _ hi]
theorem LSets.upd {w w' : World} {B lb n nk : Nat} {seen : Nat → Bool} {F : Nat → Nat → Bool} {bs gs : Nat → Nat} {S : List Nat} (h : LSets w B lb n nk seen F bs gs) (hu : Upd S w w') (h1 : lb ∉ S) (h2 : ∀ i, i < n → seen i = true → gs i ∉ S ∧ bs i ∉ S) : LSets w' B lb n nk seen F bs gs :=
  ⟨hu.heap h.tab h1, fun i hi hs => by obtain ⟨ws, h3, h4⟩ := h.set i hi hs; exact ⟨ws, h3.upd hu (h2 i hi hs).2 (h2 i hi hs).1, h4⟩, h.zero, h.far, h.inj⟩
/-- Blocks of unlike kinds are not the same. -/
theorem heap_ne {w : World} {a b : Nat} {A B : Array Value} {s t : TypeId} (ha : w.heap[a]? = some (.cells A s)) (hb : w.heap[b]? = some (.cells B t)) (h : s ≠ t) : a ≠ b := by
  rintro rfl
  rw [ha] at hb
  injection hb with hb
  injection hb with _ hb _
  exact h hb
theorem LSets.gs_lb {w : World} {B lb n nk : Nat} {seen : Nat → Bool} {F : Nat → Nat → Bool} {bs gs : Nat → Nat} (h : LSets w B lb n nk seen F bs gs) (i : Nat) (hi : i < n) (hs : seen i = true) : gs i ≠ lb := by
  obtain ⟨ws, h3, _⟩ := h.set i hi hs
  exact heap_ne h3.2.1 h.tab (by decide)
theorem LSets.gs_bs {w : World} {B lb n nk : Nat} {seen : Nat → Bool} {F : Nat → Nat → Bool} {bs gs : Nat → Nat} (h : LSets w B lb n nk seen F bs gs) (i j : Nat) (hi : i < n) (hj : j < n) (hs : seen i = true) (hs2 : seen j = true) : gs i ≠ bs j := by
  obtain ⟨ws, h3, _⟩ := h.set i hi hs
  obtain ⟨ws2, h4, _⟩ := h.set j hj hs2
  exact heap_ne h3.2.1 h4.1 (by decide)
/-- One set is turned. -/
theorem LSets.put {w w' : World} {B lb n nk : Nat} {seen : Nat → Bool} {F : Nat → Nat → Bool} {bs gs : Nat → Nat} (h : LSets w B lb n nk seen F bs gs) {pc : Nat} (hpc : pc < n) (hs : seen pc = true) (hu : Upd [gs pc] w w') {ws : List Nat} (hw : SetAt w' (bs pc) (gs pc) nk ws) :
    LSets w' B lb n nk seen (putF F pc (bhas ws)) bs gs := by
  refine ⟨hu.heap h.tab (by simp; exact (h.gs_lb pc hpc hs).symm), fun i hi hsi => ?_, fun i hsi k => ?_, h.far, h.inj⟩
  · by_cases e : i = pc
    · subst e
      exact ⟨ws, hw, fun k => by unfold putF; rw [if_pos rfl]⟩
    · obtain ⟨ws2, h3, h4⟩ := h.set i hi hsi
      refine ⟨ws2, h3.upd hu (by simp; exact (h.gs_bs pc i hpc hi hs hsi).symm) (by simp; exact fun e2 => e (h.inj i pc hi hpc hsi hs e2)), fun k => ?_⟩
      rw [h4]; unfold putF; rw [if_neg e]
  · unfold putF
    rw [if_neg (by rintro rfl; rw [hs] at hsi; cases hsi)]
    exact h.zero i hsi k
theorem bhas_rep (m k : Nat) : bhas (List.replicate m 0) k = false := by
  unfold bhas
  rw [List.getD_eq_getElem?_getD, List.getElem?_replicate]
  split <;> simp
theorem LSets.start {w : World} {lb n nk : Nat} (B : Nat) (seen : Nat → Bool) (h : w.heap[lb]? = some (.cells (List.replicate n (Value.pointer none)).toArray 148)) : LSets w B lb n nk (upto seen 0) (fun _ _ => false) (fun _ => 0) (fun _ => 0) := by
  rw [ptrs_zero n seen (fun _ => 0)] at h
  exact ⟨h, fun i _ hs => by simp [upto] at hs, fun _ _ _ => rfl, fun i _ hs => by simp [upto] at hs, fun i j _ _ hs => by simp [upto] at hs⟩
theorem upto_lt {seen : Nat → Bool} {j i : Nat} (h : upto seen (j + 1) i = true) (e : i ≠ j) : upto seen j i = true := by
  unfold upto at h ⊢
  simp only [Bool.and_eq_true, decide_eq_true_eq] at h ⊢
  exact ⟨by omega, h.2⟩
theorem LSets.skip {w : World} {B lb n nk : Nat} {seen : Nat → Bool} {bs gs : Nat → Nat} {j : Nat} (h : LSets w B lb n nk (upto seen j) (fun _ _ => false) bs gs) (hs : seen j = false) : LSets w B lb n nk (upto seen (j + 1)) (fun _ _ => false) bs gs := by
  have e : ∀ i, upto seen (j + 1) i = true → upto seen j i = true := fun i hi => upto_lt hi (by rintro rfl; simp [upto, hs] at hi)
  exact ⟨by rw [← ptrs_skip n seen bs j hs]; exact h.tab, fun i hi hsi => h.set i hi (e i hsi), fun _ _ _ => rfl, fun i hi hsi => h.far i hi (e i hsi), fun i k hi hk h1 h2 h3 => h.inj i k hi hk (e i h1) (e k h2) h3⟩
/-- A new set. -/
theorem LSets.new {w w1 : World} {B lb n nk : Nat} {seen : Nat → Bool} {bs gs : Nat → Nat} {j b g : Nat} (h : LSets w B lb n nk (upto seen j) (fun _ _ => false) bs gs) (hs : seen j = true) (hj : j < n) (hu : Upd [] w w1) (hb : w.heap.size ≤ b) (hg : w.heap.size ≤ g) (hB : B ≤ w.heap.size) (hn : SetAt w1 b g nk (List.replicate ((nk + 63) / 64) 0)) :
    LSets (w1.setCell ⟨lb, j, none⟩ (.pointer (some ⟨b, 0, none⟩))) B lb n nk (upto seen (j + 1)) (fun _ _ => false) (fun i => if i = j then b else bs i) (fun i => if i = j then g else gs i) := by
  have h1 := h.upd hu (by simp) (by simp)
  have hst := (Upd.refl [lb] w1).setCell (p := ⟨lb, j, none⟩) (.inl (by simp)) (.pointer (some ⟨b, 0, none⟩))
  have hll := h.lb_lt
  have hold : ∀ i, i < n → upto seen j i = true → gs i < w.heap.size := fun i hi hsi => by
    obtain ⟨ws, h2, _⟩ := h.set i hi hsi
    exact lt_of_heap h2.2.1
  refine ⟨?_, fun i hi hsi => ?_, fun _ _ _ => rfl, fun i hi hsi => ?_, fun i k hi hk hsi hsk e => ?_⟩
  · rw [← ptrs_put n seen bs j b hs hj]
    exact heap_setCell h1.tab j _
  · by_cases e : i = j
    · subst e
      rw [if_pos rfl, if_pos rfl]
      exact ⟨_, hn.upd hst (by simp; omega) (by simp; omega), bhas_rep _⟩
    · rw [if_neg e, if_neg e]
      obtain ⟨ws, h2, h3⟩ := h1.set i hi (upto_lt hsi e)
      exact ⟨ws, h2.upd hst (by simp; exact heap_ne h2.1 h1.tab (by decide)) (by simp; exact heap_ne h2.2.1 h1.tab (by decide)), h3⟩
  · by_cases e : i = j
    · subst e
      rw [if_pos rfl, if_pos rfl]
      omega
    · rw [if_neg e, if_neg e]
      exact h.far i hi (upto_lt hsi e)
  · by_cases e1 : i = j
    · subst e1
      by_cases e2 : k = i
      · exact e2.symm
      · rw [if_pos rfl, if_neg e2] at e
        have := hold k hk (upto_lt hsk e2)
        omega
    · by_cases e2 : k = j
      · subst e2
        rw [if_neg e1, if_pos rfl] at e
        have := hold i hi (upto_lt hsi e1)
        omega
      · rw [if_neg e1, if_neg e2] at e
        exact h.inj i k hi hk (upto_lt hsi e1) (upto_lt hsk e2) e

/-- What a map's sets say, read from the world. -/
def bitW (w : World) (lb i k : Nat) : Bool := match w.cell? ⟨lb, i, none⟩ with
  | some (.pointer (some a)) => (match w.cell? ⟨a.block, 1, none⟩ with
    | some (.slice (some g) _ _) => (match w.cell? ⟨g.block, k / 64, none⟩ with
      | some (.int _ x) => x.toNat.testBit (k % 64)
      | _ => false)
    | _ => false)
  | _ => false
theorem LSets.bit {w : World} {B lb n nk : Nat} {seen : Nat → Bool} {F : Nat → Nat → Bool} {bs gs : Nat → Nat} (h : LSets w B lb n nk seen F bs gs) (i k : Nat) (hi : i < n) (hk : k < nk) : bitW w lb i k = F i k := by
  unfold bitW
  rw [h.cell i hi]
  unfold ptrV
  by_cases hs : seen i = true
  · rw [if_pos hs]
    obtain ⟨ws, h1, h2⟩ := h.set i hi hs
    have hl := h1.2.2.2.1
    simp only [h1.c1, h1.word (k / 64) (by omega), ← h2]
    rfl
  · rw [if_neg hs]
    exact (h.zero i (by simpa using hs) k).symm
theorem LSets.cnt {w : World} {B lb n nk : Nat} {seen : Nat → Bool} {F : Nat → Nat → Bool} {bs gs : Nat → Nat} (h : LSets w B lb n nk seen F bs gs) : cntF n nk (bitW w lb) = cntF n nk F := cntF_congr fun i k hi hk => h.bit i k hi hk
end Go.Proofs.YtpmfbhoochogoaaGreatDoor

/-! live.Map.behind, ahead: what is still asked for behind an instruction, and ahead of it, as it is known. -/
/-! live.Map.behind, ahead. -/
namespace Go.Proofs.YtpmfbhoochogoaaGreatDoor
open Go.RowKit

/-- A map's cells. -/
def mapCells (ib : Nat) (k d st : Int) (m : Meth) (kv lv : Value) : Array Value := #[.pointer (some ⟨ib, 0, none⟩), .int .i64 k, .int .u32 d, .int .i32 st, .int .u32 0, .string m.params, .string m.locals, .string m.ret, kv, lv]

theorem live_of (ib : Nat) (k : Int) (w : World) :
    Calls Tryz.prog 35 #[.pointer (some ⟨ib, 0, none⟩), .int .i64 k] w fun e w' => e = .returned (.pointer (some ⟨w.heap.size, 0, none⟩)) ∧ w' = w.alloc (.cells (mapCells ib k 0 0 ⟨⟨#[]⟩, ⟨#[]⟩, ⟨#[]⟩, []⟩ (.slice none 0 0) (.slice none 0 0)) 147) := by
  go_enter Tryz.func35, Tryz.ntmps35
  go_wp2_with fail
  go_ret
  exact ⟨rfl, rfl⟩

theorem nextL_two (xs : List Ins) (pc : Int) : (nextL xs pc).length ≤ 2 := by
  unfold nextL
  repeat' split
  all_goals simp
theorem any_take_succ (p : Int → Bool) (L : List Int) (j : Nat) (h : j < L.length) : (L.take (j + 1)).any p = ((L.take j).any p || p (L.getD j 0)) := by
  rw [List.take_succ_eq_append_getElem h, List.any_append, List.getD_eq_getElem?_getD, List.getElem?_eq_getElem h]
  simp

/-- What the methods of a map that has been worked out read. -/
structure MapIn (w : World) (B mb lb ib nk : Nat) (k d st : Int) (m : Meth) (kv : Value) (seen : Nat → Bool) (F : Nat → Nat → Bool) (bk gk : Nat → Nat) : Prop where
  box : w.heap[mb]? = some (.cells (mapCells ib k d st m kv (.slice (some ⟨lb, 0, none⟩) m.code.length m.code.length)) 147)
  code : CodeAt w kv m.code
  sets : LSets w B lb m.code.length nk seen F bk gk
  tz : TzAt w
  kinds : (kindsL m).length = nk
  par : m.params.size ≤ 12
  loc : m.locals.size ≤ 12
  few : m.code.length ≤ 120
  next : ∀ pc, ∀ q ∈ nextL m.code pc, 0 ≤ q
theorem MapIn.upd {w w' : World} {B mb lb ib nk : Nat} {k d st : Int} {m : Meth} {kv : Value} {seen : Nat → Bool} {F : Nat → Nat → Bool} {bk gk : Nat → Nat} (h : MapIn w B mb lb ib nk k d st m kv seen F bk gk) (hu : Upd [] w w') : MapIn w' B mb lb ib nk k d st m kv seen F bk gk :=
  ⟨hu.heap h.box (by simp), h.code.upd hu, h.sets.upd hu (by simp) (by simp), h.tz.upd hu (by simp), h.kinds, h.par, h.loc, h.few, h.next⟩
theorem MapIn.nk_le {w : World} {B mb lb ib nk : Nat} {k d st : Int} {m : Meth} {kv : Value} {seen : Nat → Bool} {F : Nat → Nat → Bool} {bk gk : Nat → Nat} (h : MapIn w B mb lb ib nk k d st m kv seen F bk gk) : nk ≤ 24 := by
  have h1 := h.kinds
  have h2 := h.par
  have h3 := h.loc
  unfold kindsL at h1
  rw [List.length_append, ← size_list, ← size_list] at h1
  omega

set_option maxRecDepth 100000 in
set_option maxHeartbeats 4000000 in
theorem behind_any (B mb lb ib nk : Nat) (k d st : Int) (m : Meth) (kv : Value) (seen : Nat → Bool) (F : Nat → Nat → Bool) (bk gk : Nat → Nat) (pc : Int) (w : World) (h : MapIn w B mb lb ib nk k d st m kv seen F bk gk) :
    Calls Tryz.prog 73 #[.pointer (some ⟨mb, 0, none⟩), .int .i64 pc] w fun e w' => ∃ b g ws, e = .returned (.pointer (some ⟨b, 0, none⟩)) ∧ SetAt w' b g nk ws ∧ (∀ k, bhas ws k = (nextL m.code pc).any fun q => decide (q < m.code.length) && (seen q.toNat && F q.toNat k)) ∧ w.heap.size ≤ b ∧ w.heap.size ≤ g ∧ Upd [] w w' := by
  have hnk := h.nk_le
  have H := Lib.hid h
  have HKS := Lib.hid h.kinds
  obtain ⟨ka, kc, rfl, hkl⟩ := id h.code
  clear hkl
  have hb := h.box
  have m5 : w.cell? ⟨mb, 5, none⟩ = some (.string m.params) := by rw [cell_of hb]; rfl
  have m6 : w.cell? ⟨mb, 6, none⟩ = some (.string m.locals) := by rw [cell_of hb]; rfl
  have m7 : w.cell? ⟨mb, 7, none⟩ = some (.string m.ret) := by rw [cell_of hb]; rfl
  have m8 : w.cell? ⟨mb, 8, none⟩ = some (.slice ka m.code.length kc) := by rw [cell_of hb]; rfl
  have hpar := h.par
  have hloc := h.loc
  have hfew := h.few
  clear h hb
  go_enter Tryz.func73, Tryz.ntmps73
  go_wp2_with fail
  refine (kinds_any m (.slice ka m.code.length kc) w (by omega) (by omega)).mono ?_
  rintro e w1 ⟨rfl, hu1⟩
  have H1 := Lib.hid (H.out.upd hu1)
  have HTZ := Lib.hid H1.out.tz.lt
  have HU1 := Lib.hid hu1
  have hu1s := hu1.size
  have m5 := hu1.cell m5 (by simp)
  have m6 := hu1.cell m6 (by simp)
  have m7 := hu1.cell m7 (by simp)
  have m8 := hu1.cell m8 (by simp)
  have HBN := Lib.hid (bnew nk w1 (by omega))
  have HKZ : Hid ((bs (kindsL m)).size = nk) := by show _ = _; rw [bs_size, HKS.out]
  clear hu1
  go_wp2_with fail
  rw [HKZ.out]
  refine HBN.out.mono ?_
  rintro e w2 ⟨rfl, hset, hu2, hsz2⟩
  have H2 := Lib.hid (H1.out.upd hu2)
  have HU2 := Lib.hid (HU1.out.trans hu2)
  have HSET := Lib.hid hset
  have m5 := hu2.cell m5 (by simp)
  have m6 := hu2.cell m6 (by simp)
  have m7 := hu2.cell m7 (by simp)
  have m8 := hu2.cell m8 (by simp)
  have HNX := Lib.hid (next_any m.params m.locals m.ret (.slice ka m.code.length kc) m.code pc w2 H2.out.code (by omega))
  clear hu2 hset HBN H1 HU1
  go_wp2_with fail
  refine HNX.out.mono ?_
  rintro e w3 ⟨u, rfl, hun, hu3⟩
  obtain ⟨up, uc, rfl⟩ := hun.shape
  have hl2 := nextL_two m.code pc
  have hnn := H2.out.next pc
  generalize hle : nextL m.code pc = L at hun hl2 hnn
  have HLE := Lib.hid hle
  clear hle
  have HUN := Lib.hid hun
  have HU3 := Lib.hid (HU2.out.trans hu3)
  have HSET3 := Lib.hid (HSET.out.upd hu3 (by simp) (by simp))
  have hsz3 := hu3.size
  have HNN := Lib.hid hnn
  have H0 := H
  clear hu3 hun HU2 HSET H2 HNX H m5 m6 m7 m8 HKZ HKS hnn
  go_wp2_with fail
  go_loopw [22] (fun iv wr => ∃ (j : Nat) (ws : List Nat), j ≤ L.length ∧ iv = .int .i64 j ∧ Hid (SetAt wr (w1.heap.size + 1) w1.heap.size nk ws) ∧ Hid (∀ k, bhas ws k = (L.take j).any fun q => decide (q < m.code.length) && (seen q.toNat && F q.toNat k)) ∧ Hid (Upd [w1.heap.size] w3 wr)) (fun iv _ => L.length - (intOf iv).toNat)
  case atStart => exact ⟨0, _, by omega, rfl, HSET3.out, fun k => by rw [bhas_zero]; simp, Upd.refl _ _⟩
  case round =>
    obtain ⟨j, ws, hj, rfl, HS, HW, HU⟩ := hrel
    obtain ⟨wo, rfl⟩ : ∃ wo : World, wo = wr := ⟨_, rfl⟩
    have HUx : Hid (Upd [] w wo) := HU3.out.trans' HU.out (fun q hq hl => by simp at hq; omega)
    have HO := Lib.hid (H0.out.upd HUx.out)
    clear HSET3 H0
    by_cases hlt : j < L.length
    · obtain ⟨gu, hgu, hcu⟩ : ∃ gu, up = some ⟨gu, 0, none⟩ ∧ wo.cell? ⟨gu, j, none⟩ = some (.int .i64 (L.getD j 0)) := by
        rcases (HUN.out.upd HU.out (fun k hk => by
          rcases HUN.out.form with ⟨h1, h2⟩ | ⟨g, c, h1, h2, h3, h4, h5⟩
          · injection h1 with h1; subst h1; simp [Value.ownBlock] at hk
          · injection h1 with h1; subst h1; simp [Value.ownBlock] at hk; subst hk; simp; omega)).form with ⟨h1, h2⟩ | ⟨g, c, h1, h2, h3, h4, h5⟩
        · rw [h2] at hlt; simp at hlt
        · injection h1 with h1
          exact ⟨g, h1, h5 j hlt⟩
      subst hgu
      obtain ⟨q, hq⟩ : ∃ q : Nat, L.getD j 0 = (q : Int) := Int.eq_ofNat_of_zero_le (HNN.out _ (by rw [List.getD_eq_getElem?_getD, List.getElem?_eq_getElem hlt]; exact List.getElem_mem hlt))
      have HQ := Lib.hid hq
      rw [hq] at hcu
      clear hq
      have m9 : wo.cell? ⟨mb, 9, none⟩ = some (.slice (some ⟨lb, 0, none⟩) m.code.length m.code.length) := by rw [cell_of HO.out.box]; rfl
      by_cases hqn : q < m.code.length
      · have hl := HO.out.sets.cell q hqn
        unfold ptrV at hl
        by_cases hs : seen q = true
        · rw [if_pos hs] at hl
          obtain ⟨vs, hv1, hv2⟩ := HO.out.sets.set q hqn hs
          have HV2 := Lib.hid hv2
          have HJ := Lib.hid (bjoin_any (w1.heap.size + 1) w1.heap.size nk (bk q) (gk q) nk ws vs wo HS.out hv1 HO.out.tz (by have := HTZ.out; omega) (by omega))
          clear hv1 hv2
          go_wp2_with fail
          refine HJ.out.mono ?_
          rintro e w5 ⟨av, ws5, rfl, hs5, hget, _, _, hu5⟩
          have HS5 := Lib.hid hs5
          have HU5 := Lib.hid (HU.out.trans hu5)
          have HW5 : Hid (∀ k, bhas ws5 k = (L.take (j + 1)).any fun q => decide (q < m.code.length) && (seen q.toNat && F q.toNat k)) := by
            intro k
            rw [any_take_succ _ _ _ hlt, HQ.out, hget, HW.out k, HV2.out k, Int.toNat_natCast, hs, decide_eq_true (by omega : (q : Int) < (m.code.length : Int))]
            have h7 : (decide (k < nk) && F q k) = F q k := by
              cases hF : F q k with
              | false => simp
              | true =>
                obtain ⟨vs, hv1, hv2⟩ := HO.out.sets.set q hqn hs
                rw [← hv2] at hF
                rw [decide_eq_true (hv1.2.2.2.2.2 k hF)]; rfl
            rw [h7]; simp
          clear hs5 hget hu5 HJ
          go_wp2_with fail
          go_roundw
          case rel => exact ⟨j + 1, ws5, by omega, by go_num, HS5.out, HW5.out, HU5.out⟩
          case measure => simp [intOf]; omega
        · rw [if_neg hs] at hl
          have HW5 : Hid (∀ k, bhas ws k = (L.take (j + 1)).any fun q => decide (q < m.code.length) && (seen q.toNat && F q.toNat k)) := by
            intro k
            rw [any_take_succ _ _ _ hlt, HQ.out, HW.out k, Int.toNat_natCast]
            have : seen q = false := by simpa using hs
            rw [this]; simp
          go_wp2_with fail
          go_roundw
          case rel => exact ⟨j + 1, ws, by omega, by go_num, HS.out, HW5.out, HU.out⟩
          case measure => simp [intOf]; omega
      · have HW5 : Hid (∀ k, bhas ws k = (L.take (j + 1)).any fun q => decide (q < m.code.length) && (seen q.toNat && F q.toNat k)) := by
          intro k
          rw [any_take_succ _ _ _ hlt, HQ.out, HW.out k, decide_eq_false (by omega : ¬ (q : Int) < (m.code.length : Int))]
          simp
        go_wp2_with fail
        go_roundw
        case rel => exact ⟨j + 1, ws, by omega, by go_num, HS.out, HW5.out, HU.out⟩
        case measure => simp [intOf]; omega
    · obtain rfl : j = L.length := by omega
      have HW5 : Hid (∀ k, bhas ws k = (nextL m.code pc).any fun q => decide (q < m.code.length) && (seen q.toNat && F q.toNat k)) := by
        intro k
        rw [HW.out k, List.take_length, HLE.out]
      go_wp2_with fail
      go_ret
      exact ⟨_, _, ws, rfl, HS.out, HW5.out, by omega, by omega, HUx.out⟩

set_option maxRecDepth 100000 in
set_option maxHeartbeats 4000000 in
theorem ahead_any (B mb lb ib nk : Nat) (k d st : Int) (m : Meth) (kv : Value) (seen : Nat → Bool) (F : Nat → Nat → Bool) (bk gk : Nat → Nat) (pc : Nat) (w : World) (h : MapIn w B mb lb ib nk k d st m kv seen F bk gk) (hpc : pc < m.code.length) :
    Calls Tryz.prog 111 #[.pointer (some ⟨mb, 0, none⟩), .int .i64 pc] w fun e w' => ∃ b g ws, e = .returned (.pointer (some ⟨b, 0, none⟩)) ∧ SetAt w' b g nk ws ∧ (∀ k, bhas ws k = ahF m.code seen nk F pc k) ∧ w.heap.size ≤ b ∧ w.heap.size ≤ g ∧ Upd [] w w' := by
  have H := Lib.hid h
  have HBH := Lib.hid (behind_any B mb lb ib nk k d st m kv seen F bk gk pc w h)
  have hfew := h.few
  clear h
  go_enter Tryz.func111, Tryz.ntmps111
  go_wp2_with fail
  refine HBH.out.mono ?_
  rintro e w1 ⟨b, g, ws, rfl, hset, hget, hb, hg, hu1⟩
  have HGET : Hid (∀ k, bhas ws k = behF m.code seen F pc k) := hget
  have H1 := H.out.upd hu1
  obtain ⟨ka, kc, rfl, hkl, hkm, hx⟩ := id H1.code
  obtain ⟨cb, co, rfl, hbd, hi0, hi1, hi2, hi3⟩ := hx pc hpc
  have m8 : w1.cell? ⟨mb, 8, none⟩ = some (.slice (some ⟨cb, co, none⟩) m.code.length kc) := by rw [cell_of H1.box]; rfl
  have HX : ∀ k, ahF m.code seen nk F pc k = ((behF m.code seen F pc k && !(decide ((m.code.getD pc default).op = 4) && decide ((m.code.getD pc default).a = (k : Int)))) || (decide ((m.code.getD pc default).op = 3) && (decide (k < nk) && decide ((m.code.getD pc default).a = (k : Int))))) := fun _ => rfl
  have HX := Lib.hid HX
  have HSET := Lib.hid hset
  have HU1 := Lib.hid hu1
  clear hget hx H1 H HBH hbd hkm hset hu1
  generalize m.code.getD pc default = x at hi0 hi1 hi2 hi3 HX
  obtain ⟨op, xa, xb, xn⟩ := x
  simp only at hi0 hi1 hi2 hi3 HX
  have hua := (Upd.refl [] w1).alloc (.cells #[.int .i64 op, .int .i64 xa, .int .i64 xb, .int .i64 xn] 24)
  have HSA := Lib.hid (HSET.out.upd hua (by simp) (by simp))
  have HUA := Lib.hid (HU1.out.trans hua)
  have hs1 := HU1.out.size
  have hlb := lt_of_heap HSET.out.1
  have hlg := lt_of_heap HSET.out.2.1
  clear hua HSET HU1
  by_cases h4 : op = 4
  · subst h4
    have HD := Lib.hid (drop_any b g nk xa ws _ HSA.out)
    go_wp2_with fail
    refine HD.out.mono ?_
    rintro e w2 ⟨ws2, rfl, hs2, hg2, hu2⟩
    go_wp2_with fail
    go_ret
    refine ⟨b, g, ws2, rfl, hs2, fun k => ?_, hb, hg, HUA.out.trans' hu2 (fun q hq hl => by simp at hq; omega)⟩
    rw [hg2, HGET.out, HX.out]
    simp
  by_cases h3 : op = 3
  · subst h3
    have HD := Lib.hid (add_any b g nk xa ws _ HSA.out)
    clear h4
    go_wp2_with fail
    refine HD.out.mono ?_
    rintro e w2 ⟨r, ws2, rfl, hs2, hg2, hu2⟩
    go_wp2_with fail
    go_ret
    refine ⟨b, g, ws2, rfl, hs2, fun k => ?_, hb, hg, HUA.out.trans' hu2 (fun q hq hl => by simp at hq; omega)⟩
    rw [hg2, HGET.out, HX.out]
    simp
  · have d4 : (op == 4) = false := by simpa using h4
    have d3 : (op == 3) = false := by simpa using h3
    have e4 : decide (op = 4) = false := decide_eq_false h4
    have e3 : decide (op = 3) = false := decide_eq_false h3
    have HE4 := Lib.hid e4
    have HE3 := Lib.hid e3
    clear h4 h3 e4 e3
    go_wp2_with fail
    go_ret
    refine ⟨b, g, ws, rfl, HSA.out, fun k => ?_, hb, hg, HUA.out⟩
    rw [HGET.out, HX.out, HE4.out, HE3.out]
    simp
end Go.Proofs.YtpmfbhoochogoaaGreatDoor

/-! verify.Info.Program; live.Map.work: which locals are live. live.Map.work: which locals are live. -/
/-! verify.Info.Program; live.Map.work: which locals are live. -/
/-! verify.Info.Program. -/
namespace Go.Proofs.YtpmfbhoochogoaaGreatDoor
open Go.RowKit

/-- A block without an instruction is none of a code's. -/
theorem CodeAt.off {w w' : World} {v : Value} {xs : List Ins} {B : Nat} (h : CodeAt w v xs) (hu : Upd [B] w w') (hB : ∀ o x, ¬ InsAt w B o x) : CodeAt w' v xs := by
  obtain ⟨a, cap, h1, h2, h3, h4⟩ := h
  refine ⟨a, cap, h1, h2, h3, fun i hi => ?_⟩
  obtain ⟨b, o, h5, h6, h7⟩ := h4 i hi
  have hb : b ∉ [B] := by
    intro hm
    simp at hm
    subst hm
    exact hB _ _ h7
  exact ⟨b, o, h5, h6, hu.cell h7.1 hb, hu.cell h7.2.1 hb, hu.cell h7.2.2.1 hb, hu.cell h7.2.2.2 hb⟩
theorem MethsAt.off {w w' : World} {v : Value} {ms : List Meth} {B : Nat} (h : MethsAt w v ms) (hu : Upd [B] w w') (hB : ∀ o x, ¬ InsAt w B o x) (hB2 : ∀ o s, w.cell? ⟨B, o, none⟩ ≠ some (.string s)) : MethsAt w' v ms := by
  obtain ⟨a, cap, h1, h2, h3, h4⟩ := h
  refine ⟨a, cap, h1, h2, h3, fun i hi => ?_⟩
  obtain ⟨b, o, h5, h6, h7, h8, h9, u, h10, h11⟩ := h4 i hi
  have hb : b ∉ [B] := by
    intro hm
    simp at hm
    subst hm
    exact hB2 _ _ h7
  exact ⟨b, o, h5, h6, hu.cell h7 hb, hu.cell h8 hb, hu.cell h9 hb, u, hu.cell h10 hb, h11.off hu hB⟩
theorem ClassAt.off {w w' : World} {v : Value} {cs : List ByteArray} {B : Nat} (h : ClassAt w v cs) (hu : Upd [B] w w') (hB2 : ∀ o s, w.cell? ⟨B, o, none⟩ ≠ some (.string s)) : ClassAt w' v cs := by
  obtain ⟨a, cap, h1, h0, h2, h3, h4⟩ := h
  refine ⟨a, cap, h1, h0, h2, h3, fun i hi => ?_⟩
  obtain ⟨b, o, h5, h6, h7⟩ := h4 i hi
  have hb : b ∉ [B] := by
    intro hm
    simp at hm
    subst hm
    exact hB2 _ _ h7
  exact ⟨b, o, h5, h6, hu.cell h7 hb⟩
theorem two_slices {w : World} {B n1 n2 c1 c2 : Nat} {p1 p2 : Option Addr} {t : TypeId} (h : w.heap[B]? = some (.cells #[.slice p1 n1 c1, .slice p2 n2 c2] t)) (o : Nat) : w.cell? ⟨B, o, none⟩ = none ∨ ∃ p n c, w.cell? ⟨B, o, none⟩ = some (.slice p n c) := by
  rw [cell_of h]
  match o with
  | 0 => exact .inr ⟨_, _, _, rfl⟩
  | 1 => exact .inr ⟨_, _, _, rfl⟩
  | o + 2 => left; simp

set_option maxRecDepth 100000 in
set_option maxHeartbeats 2000000 in
theorem iprog_any (ib : Nat) (p : Prg) (ss : List Lk) (n : Int) (w : World) (h : InfoAt w ib p ss n) (hn : p.ms.length ≤ 1000) (hn2 : p.cs.length ≤ 1000) (hk : ∀ j, j < p.ms.length → (p.ms.getD j default).code.length ≤ 1000) :
    Calls Tryz.prog 52 #[.pointer (some ⟨ib, 0, none⟩)] w fun e w' => ∃ cv mv, e = .returned (.agg #[cv, mv]) ∧ ClassAt w' cv p.cs ∧ MethsAt w' mv p.ms ∧ Upd [] w w' := by
  obtain ⟨cv, mv, lv, hb, hc, hm, _⟩ := h
  obtain ⟨cp, cc, rfl, hcx⟩ := id hc
  obtain ⟨mp, mc, rfl, hmx⟩ := id hm
  have hb0 := ((Upd.refl [] w).alloc (.cells #[.slice none 0 0, .slice none 0 0] 36)).heap hb (by simp)
  have hA := heap_alloc_new w (.cells #[.slice none 0 0, .slice none 0 0] 36)
  have hu0 := (Upd.refl [] w).alloc (.cells #[.slice none 0 0, .slice none 0 0] 36)
  have HC := Lib.hid ((hc.reads (offW_reads w ib)).upd hu0)
  have HM := Lib.hid ((hm.reads (offW_reads w ib)).upd hu0)
  clear hcx hmx hc hm
  go_enter Tryz.func52, Tryz.ntmps52
  go_upto_region 1 with fail
  generalize w.alloc (.cells #[.slice none 0 0, .slice none 0 0] 36) = w0 at hb0 hA hu0 HC HM ⊢
  have c0 : w0.cell? ⟨ib, 0, none⟩ = some (.slice cp p.cs.length cc) := by rw [cell_of hb0]; rfl
  have c1 : w0.cell? ⟨ib, 1, none⟩ = some (.slice mp p.ms.length mc) := by rw [cell_of hb0]; rfl
  have HCP := Lib.hid (copied_any p _ _ w0 HC.out HM.out hn hn2 hk)
  have HA := Lib.hid hA
  have HU0 := Lib.hid hu0
  clear hb0 hA hu0
  go_wp2_with fail
  refine HCP.out.mono ?_
  rintro e w1 ⟨cv', mv', rfl, hc1, hm1, hu1⟩
  obtain ⟨cp1, cc1, rfl, hcx⟩ := id hc1
  obtain ⟨mp1, mc1, rfl, hmx⟩ := id hm1
  have hA1 := hu1.heap HA.out (by simp)
  have f0 := froz_of hA1 0
  have f1 := froz_of hA1 1
  have a0 : w1.cell? ⟨w.heap.size, 0, none⟩ = some (.slice none 0 0) := by rw [cell_of hA1]; rfl
  have a1 : w1.cell? ⟨w.heap.size, 1, none⟩ = some (.slice none 0 0) := by rw [cell_of hA1]; rfl
  have HA1 := Lib.hid hA1
  have HC1 := Lib.hid hc1
  have HM1 := Lib.hid hm1
  have HU1 := Lib.hid (HU0.out.trans hu1)
  clear hcx hmx hc1 hm1 hu1 hA1
  go_wp2_with fail
  have k1 := heap_setCell HA1.out 0 (.slice cp1 p.cs.length cc1)
  have k2 := heap_setCell k1 1 (.slice mp1 p.ms.length mc1)
  have d0 := cell_of k2 0
  have d1 := cell_of k2 1
  simp at d0 d1
  have hst : Upd [w.heap.size] w1 ((w1.setCell ⟨w.heap.size, 0, none⟩ (.slice cp1 p.cs.length cc1)).setCell ⟨w.heap.size, 1, none⟩ (.slice mp1 p.ms.length mc1)) := ((Upd.refl _ _).setCell (.inl (by simp)) _).setCell (.inl (by simp)) _
  refine bodyPost_ret (v := .agg #[.slice cp1 p.cs.length cc1, .slice mp1 p.ms.length mc1]) (by simp [results, Tryz.results52, go_sem, d0, d1]) rfl ?_
  have hB2 : ∀ o s, w1.cell? ⟨w.heap.size, o, none⟩ ≠ some (.string s) := fun o s he => by
    rcases two_slices HA1.out o with h | ⟨_, _, _, h⟩
    · rw [h] at he; cases he
    · rw [h] at he; cases he
  have hB : ∀ o x, ¬ InsAt w1 w.heap.size o x := fun o x hx => by
    have he := hx.1
    rcases two_slices HA1.out o with h | ⟨_, _, _, h⟩
    · rw [h] at he; cases he
    · rw [h] at he; cases he
  exact ⟨_, _, rfl, HC1.out.off hst hB2, HM1.out.off hst hB hB2, HU1.out.trans' hst (fun q hq hl => by simp at hq; omega)⟩
end Go.Proofs.YtpmfbhoochogoaaGreatDoor

/-! live.Map.work: which locals are live. -/
/-! live.Map.work. -/
namespace Go.Proofs.YtpmfbhoochogoaaGreatDoor
open Go.RowKit

theorem Prg.Ok.load {p : Prg} (h : p.Ok) {k pc : Nat} (hk : k < p.ms.length) (hpc : pc < (p.ms.getD k default).code.length) (hop : ((p.ms.getD k default).code.getD pc default).op = 3 ∨ ((p.ms.getD k default).code.getD pc default).op = 4) :
    0 ≤ ((p.ms.getD k default).code.getD pc default).a ∧ ((p.ms.getD k default).code.getD pc default).a < ((kindsL (p.ms.getD k default)).length : Int) := by
  have h1 := h.ins k hk pc hpc
  unfold insCode at h1
  split at h1
  · cases h1
  · split at h1
    · cases h1
    · rename_i h2
      unfold kindsL
      rw [List.length_append, ← size_list, ← size_list]
      by_cases c : (((p.ms.getD k default).code.getD pc default).a < 0 ∨ ((p.ms.getD k default).params.size : Int) + (p.ms.getD k default).locals.size ≤ ((p.ms.getD k default).code.getD pc default).a)
      · exact absurd ⟨hop, c⟩ h2
      · omega
theorem Prg.Ok.jump {p : Prg} (h : p.Ok) {k pc : Nat} (hk : k < p.ms.length) (hpc : pc < (p.ms.getD k default).code.length) (hop : ((p.ms.getD k default).code.getD pc default).op = 22 ∨ ((p.ms.getD k default).code.getD pc default).op = 23) :
    0 ≤ ((p.ms.getD k default).code.getD pc default).a ∧ ((p.ms.getD k default).code.getD pc default).a < ((p.ms.getD k default).code.length : Int) := by
  have h1 := h.ins k hk pc hpc
  generalize p.ms.getD k default = m at h1 hop ⊢
  generalize m.code.getD pc default = x at h1 hop ⊢
  unfold insCode at h1
  by_cases c : x.a < 0 ∨ (m.code.length : Int) ≤ x.a
  · split at h1
    · cases h1
    split at h1
    · cases h1
    split at h1
    · cases h1
    split at h1
    · cases h1
    split at h1
    · cases h1
    rw [if_pos ⟨hop, c⟩] at h1
    cases h1
  · omega
theorem Prg.Ok.nexts {p : Prg} (h : p.Ok) {k : Nat} (hk : k < p.ms.length) (pc : Int) : ∀ q ∈ nextL (p.ms.getD k default).code pc, 0 ≤ q := by
  intro q hq
  unfold nextL at hq
  split at hq
  · rename_i hp
    obtain ⟨i, rfl⟩ := Int.eq_ofNat_of_zero_le hp.1
    rw [Int.toNat_natCast] at hq
    have hj := h.jump hk (pc := i) (by omega)
    clear hp
    generalize p.ms.getD k default = m at hq hj
    generalize m.code.getD i default = x at hq hj
    split at hq
    · cases hq
    · split at hq
      · rename_i e; have := hj (.inl e); rw [List.mem_singleton] at hq; omega
      · split at hq
        · rename_i e; have := hj (.inr e)
          split at hq
          · rw [List.mem_singleton] at hq; omega
          · split at hq
            · rw [List.mem_cons, List.mem_singleton] at hq; omega
            · rw [List.mem_cons, List.mem_singleton] at hq; omega
        · rw [List.mem_singleton] at hq; omega
  · cases hq

theorem Tryz.infoPtrSet : (Tryz.prog.info? 148).map (fun i => (i.zero, i.size, i.bytes)) = some (some (.pointer none), 1, 8) := by kernel_rfl
theorem make_setsL (w : World) (m : Nat) (h : m ≤ 1000000) : (Instr.makeSlice 145 (.int .i64 (m : Int)) (.int .i64 (m : Int))).run Tryz.prog w = .ok (.slice (some ⟨w.heap.size, 0, none⟩) m m) (w.alloc (.cells (List.replicate m (Value.pointer none)).toArray 148)) := by
  obtain ⟨i0, hi, hz0, hz1, hz2⟩ := info_parts Tryz.infoPtrSet
  have hmk := run_make (P := Tryz.prog) w 145 148 i0 (.pointer none) Tryz.underlying145 hi hz0 .i64 .i64 (m : Int) (m : Int) (by omega) (by omega) (by rw [hz2]; omega) (by omega)
  rw [hz1, Nat.mul_one] at hmk
  have e : madeCells (Value.pointer none).cells m = (List.replicate m (Value.pointer none)).toArray := by
    unfold madeCells
    apply Array.ext_getElem?
    intro i
    by_cases h : i < m
    · simp [h, Value.cells, Nat.mod_one]
    · simp [h]
  simpa [e] using hmk
/-- The box of a map holds no instruction. -/
theorem map_no_ins {w : World} {mb ib : Nat} {k d st : Int} {m : Meth} {kv lv : Value} (h : w.heap[mb]? = some (.cells (mapCells ib k d st m kv lv) 147)) (hkv : ∀ x, kv ≠ .int .i64 x) (hlv : ∀ x, lv ≠ .int .i64 x) (o : Nat) (x : Ins) : ¬ InsAt w mb o x := by
  rintro ⟨h0, h1, _, _⟩
  rw [cell_of h] at h0 h1
  unfold mapCells at h0 h1
  match o with
  | 0 => cases h0
  | 1 => cases h1
  | 2 => cases h0
  | 3 => cases h0
  | 4 => cases h0
  | 5 => cases h0
  | 6 => cases h0
  | 7 => cases h0
  | 8 => simp at h0; exact hkv _ h0
  | 9 => simp at h0; exact hlv _ h0
  | o + 10 => simp at h0

/-- One set is turned. -/
theorem MapIn.put {w w' : World} {B mb lb ib nk : Nat} {k d st : Int} {m : Meth} {kv : Value} {seen : Nat → Bool} {F : Nat → Nat → Bool} {bk gk : Nat → Nat} (h : MapIn w B mb lb ib nk k d st m kv seen F bk gk) {pc : Nat} (hpc : pc < m.code.length) (hs : seen pc = true) (hu : Upd [gk pc] w w') {ws : List Nat} (hw : SetAt w' (bk pc) (gk pc) nk ws) (hmb : mb < B) (htb : 10 < B) :
    MapIn w' B mb lb ib nk k d st m kv seen (putF F pc (bhas ws)) bk gk := by
  have hf := (h.sets.far pc hpc hs).1
  refine ⟨hu.heap h.box (by simp; omega), ?_, h.sets.put hpc hs hu hw, h.tz.upd hu (by simp; omega), h.kinds, h.par, h.loc, h.few, h.next⟩
  refine h.code.off hu (fun o x hx => ?_)
  obtain ⟨vs, hv, _⟩ := h.sets.set pc hpc hs
  have h0 := hx.1
  rw [cell_of hv.2.1] at h0
  by_cases ho : o < vs.length
  · rw [ucells_get _ _ ho] at h0
    simp at h0
  · rw [Array.getElem?_eq_none (by simp [ucells]; omega)] at h0
    cases h0
theorem CodeAt.offs {w w' : World} {v : Value} {xs : List Ins} {T : List Nat} (h : CodeAt w v xs) (hu : Upd T w w') (hB : ∀ B ∈ T, ∀ o x, ¬ InsAt w B o x) : CodeAt w' v xs := by
  obtain ⟨a, cap, h1, h2, h3, h4⟩ := h
  refine ⟨a, cap, h1, h2, h3, fun i hi => ?_⟩
  obtain ⟨b, o, h5, h6, h7⟩ := h4 i hi
  have hb : b ∉ T := fun hm => hB b hm _ _ h7
  exact ⟨b, o, h5, h6, hu.cell h7.1 hb, hu.cell h7.2.1 hb, hu.cell h7.2.2.1 hb, hu.cell h7.2.2.2 hb⟩
theorem LSets.no_ins {w : World} {B lb n nk : Nat} {seen : Nat → Bool} {F : Nat → Nat → Bool} {bk gk : Nat → Nat} (h : LSets w B lb n nk seen F bk gk) (o : Nat) (x : Ins) : ¬ InsAt w lb o x := by
  rintro ⟨h0, _⟩
  rw [cell_of h.tab] at h0
  by_cases ho : o < n
  · rw [ptrs_get _ _ _ _ ho] at h0
    unfold ptrV at h0
    split at h0 <;> cases h0
  · rw [Array.getElem?_eq_none (by rw [ptrs_size]; omega)] at h0
    cases h0
theorem InfoAt.no_ins {w : World} {ib : Nat} {p : Prg} {ss : List Lk} {n : Int} (h : InfoAt w ib p ss n) (o : Nat) (x : Ins) : ¬ InsAt w ib o x := by
  obtain ⟨cv, mv, lv, hb, ⟨_, _, rfl, _⟩, ⟨_, _, rfl, _⟩, ⟨_, _, rfl, _⟩⟩ := h
  rintro ⟨h0, h1, _⟩
  rw [cell_of hb] at h0 h1
  match o with
  | 0 => cases h0
  | 1 => cases h0
  | 2 => cases h0
  | 3 => cases h1
  | o + 4 => simp at h0
theorem sound_zero (xs : List Ins) (seen : Nat → Bool) : SoundF xs seen (fun _ _ => false) := fun _ _ h => by cases h
def chM : Value → Nat
  | .bool true => 1
  | _ => 0
theorem putF_le {F : Nat → Nat → Bool} {pc : Nat} {f : Nat → Bool} (h : ∀ k, F pc k = true → f k = true) : ∀ i k, F i k = true → putF F pc f i k = true := by
  intro i k hk
  unfold putF
  split
  · rename_i e; subst e; exact h k hk
  · exact hk
theorem putF_same {F : Nat → Nat → Bool} {pc : Nat} {f : Nat → Bool} (h : ∀ k, f k = F pc k) : putF F pc f = F := by
  funext i k
  unfold putF
  split
  · rename_i e; subst e; exact h k
  · rfl

abbrev nilM : Meth := ⟨⟨#[]⟩, ⟨#[]⟩, ⟨#[]⟩, []⟩
/-- Which places a look has reached. -/
def seenF (s : Lk) (i : Nat) : Bool := s.seen.getD i false

set_option maxRecDepth 100000 in
set_option maxHeartbeats 8000000 in
theorem work_any (mb ib : Nat) (p : Prg) (ss : List Lk) (n0 a0 : Int) (k : Nat) (m : Meth) (s : Lk) (W0 w : World) (hmd : m = p.ms.getD k default) (hsd : s = ss.getD k default) (hi : InfoK W0 w ib p ss n0 a0) (hw0 : W0.heap.size ≤ mb) (hl : ss.length = p.ms.length) (hk : k < p.ms.length) (hok : p.Ok) (hlk : ∀ j, j < p.ms.length → lookM p (p.ms.getD j default) = .ok (ss.getD j default)) (h0 : 0 ≤ a0) (h1 : a0 ≤ 900000000)
    (hb : w.heap[mb]? = some (.cells (mapCells ib k 0 1 nilM (.slice none 0 0) (.slice none 0 0)) 147)) (hT : TzAt w) :
    Calls Tryz.prog 88 #[.pointer (some ⟨mb, 0, none⟩)] w fun e w' => e = .returned (.tuple #[]) ∧ ∃ lb kv F bk gk, MapIn w' w.heap.size mb lb ib (kindsL m).length k 0 1 m kv (seenF s) F bk gk ∧ (∀ pc q, F pc q = true ↔ LiveR m.code (fun i => seenF s i = true) pc q) ∧ InfoK W0 w' ib p ss n0 (a0 + m.code.length) ∧ Upd [mb, ib] w w' := by
  have hib := hi.lt
  have hws := hi.upd.size
  have hmbw := lt_of_heap hb
  have hmt : mb ≠ 10 := by
    rintro rfl
    have h2 := hT 0 (by decide)
    rw [cell_of hb] at h2
    cases h2
  have hit : ib ≠ 10 := by
    rintro rfl
    have h2 := hT 0 (by decide)
    obtain ⟨cv, mv, lv, hbx, ⟨_, _, rfl, _⟩, _⟩ := hi.now
    rw [cell_of hbx] at h2
    cases h2
  have hmi : mb ≠ ib := by omega
  have HOK := Lib.hid hok
  have HLK := Lib.hid hlk
  have HI := Lib.hid hi
  have HT := Lib.hid hT
  have hcl := hok.code1 k hk
  have hsz := hok.sizes k
  rw [← hmd] at hcl hsz
  have HMD := Lib.hid hmd
  have HSD := Lib.hid hsd
  have hmany := hok.many
  have hfew := hok.few
  have HPR := Lib.hid (iprog_any ib p ss a0 w hi.now (by omega) (by omega) (fun j hj => by have := hok.code1 j hj; omega))
  have m0 : w.cell? ⟨mb, 0, none⟩ = some (.pointer (some ⟨ib, 0, none⟩)) := by rw [cell_of hb]; rfl
  have HB := Lib.hid hb
  clear hi hT hok hlk hb hmd hsd
  go_enter Tryz.func88, Tryz.ntmps88
  go_wp2_with fail
  refine HPR.out.mono ?_
  rintro e w1 ⟨cv, mv, rfl, hc1, hm1, hu1⟩
  obtain ⟨cp, cc, rfl, hcx⟩ := id hc1
  obtain ⟨mp, mc, rfl, hml, hmm, hmx⟩ := id hm1
  clear hcx
  unfold maxLen at hmm
  have hb1 := hu1.heap HB.out (by simp)
  have hu2 := (Upd.refl [] w1).alloc (.cells #[.slice cp p.cs.length cc, .slice mp p.ms.length mc] 36)
  have hp2 := heap_alloc_new w1 (.cells #[.slice cp p.cs.length cc, .slice mp p.ms.length mc] 36)
  have HB2 := Lib.hid (hu2.heap hb1 (by simp))
  have HM2 := Lib.hid (hm1.upd hu2)
  have HI2 := Lib.hid ((HI.out.keep hu1 (by simp)).keep hu2 (by simp))
  have HU2 := Lib.hid (hu1.trans hu2)
  clear hb1 hu2 hc1 hm1 hmx hu1 HB HI m0
  go_upto_region 1 with fail
  generalize w1.alloc (.cells #[.slice cp p.cs.length cc, .slice mp p.ms.length mc] 36) = w2 at hp2 HB2 HM2 HI2 HU2 ⊢
  generalize w1.heap.size = pb at hp2 ⊢
  have p1 : w2.cell? ⟨pb, 1, none⟩ = some (.slice mp p.ms.length mc) := by rw [cell_of hp2]; rfl
  have m1 : w2.cell? ⟨mb, 1, none⟩ = some (.int .i64 k) := by rw [cell_of HB2.out]; rfl
  have g1 : decide ((k : Int) < 0) = false := decide_eq_false (by omega)
  have g2 : decide ((p.ms.length : Int) ≤ (k : Int)) = false := decide_eq_false (by omega)
  have g3 : decide (p.ms.length ≤ k) = false := decide_eq_false (by omega)
  have HP2 := Lib.hid hp2
  clear hp2
  go_quiet (fail)
  have hud := (Upd.refl [] w2).drewN nq
  have HB3 := Lib.hid (hud.heap HB2.out (by simp))
  have HM3 := Lib.hid (HM2.out.upd hud)
  have HI3 := Lib.hid (HI2.out.keep hud (by simp))
  have HU3 := Lib.hid (HU2.out.trans hud)
  have p1 := hud.cell p1 (by simp)
  have m1 := hud.cell m1 (by simp)
  clear hud HB2 HM2 HI2 HU2
  generalize w2.drewN nq = w3 at HB3 HM3 HI3 HU3 p1 m1 ⊢
  obtain ⟨a3, c3, he3, _, _, hx3⟩ := HM3.out
  injection he3 with he3 _ _
  subst he3
  obtain ⟨b3, o3, rfl, hsz3, n0, n1, n2, kv, n3, hcode⟩ := hx3 k hk
  rw [← HMD.out] at n0 n1 n2 hcode hsz3
  have HSZ3 := Lib.hid hsz3
  have HCO := Lib.hid hcode
  obtain ⟨ka, kc, hkv, _⟩ := hcode
  subst hkv
  have f5 := froz_of HB3.out 5
  have f6 := froz_of HB3.out 6
  have f7 := froz_of HB3.out 7
  have f8 := froz_of HB3.out 8
  have e5 : w3.cell? ⟨mb, 5, none⟩ = some (.string ⟨#[]⟩) := by rw [cell_of HB3.out]; rfl
  have e6 : w3.cell? ⟨mb, 6, none⟩ = some (.string ⟨#[]⟩) := by rw [cell_of HB3.out]; rfl
  have e7 : w3.cell? ⟨mb, 7, none⟩ = some (.string ⟨#[]⟩) := by rw [cell_of HB3.out]; rfl
  have e8 : w3.cell? ⟨mb, 8, none⟩ = some (.slice none 0 0) := by rw [cell_of HB3.out]; rfl
  clear hx3 hsz3
  go_upto_region 2 with fail
  go_region
  have k5 := heap_setCell HB3.out 5 (.string m.params)
  have k6 := heap_setCell k5 6 (.string m.locals)
  have k7 := heap_setCell k6 7 (.string m.ret)
  have k8 := heap_setCell k7 8 (.slice ka m.code.length kc)
  have hst : Upd [mb] w3 ((((w3.setCell ⟨mb, 5, none⟩ (.string m.params)).setCell ⟨mb, 6, none⟩ (.string m.locals)).setCell ⟨mb, 7, none⟩ (.string m.ret)).setCell ⟨mb, 8, none⟩ (.slice ka m.code.length kc)).drew :=
    (((((Upd.refl _ w3).setCell (.inl (by simp)) _).setCell (.inl (by simp)) _).setCell (.inl (by simp)) _).setCell (.inl (by simp)) _).drew
  have HB4 : Hid (((((w3.setCell ⟨mb, 5, none⟩ (.string m.params)).setCell ⟨mb, 6, none⟩ (.string m.locals)).setCell ⟨mb, 7, none⟩ (.string m.ret)).setCell ⟨mb, 8, none⟩ (.slice ka m.code.length kc)).drew.heap[mb]? = some (.cells (mapCells ib k 0 1 m (.slice ka m.code.length kc) (.slice none 0 0)) 147)) := k8
  have HCO4 := Lib.hid (HCO.out.off hst (map_no_ins HB3.out (by simp) (by simp)))
  have HI4 := Lib.hid (HI3.out.keep hst (by simp; omega))
  have HU4 : Hid (Upd [mb] w _) := (HU3.out.mono (T := [mb]) (by simp)).trans hst
  have HTM := Lib.hid hmt
  have HTI := Lib.hid hit
  have HMI := Lib.hid hmi
  clear k5 k6 k7 k8 hst HB3 HCO HI3 HU3 e5 e6 e7 e8 f5 f6 f7 f8 n0 n1 n2 n3 p1 m1 hmt hit hmi
  generalize ((((w3.setCell ⟨mb, 5, none⟩ (.string m.params)).setCell ⟨mb, 6, none⟩ (.string m.locals)).setCell ⟨mb, 7, none⟩ (.string m.ret)).setCell ⟨mb, 8, none⟩ (.slice ka m.code.length kc)).drew = w4 at HB4 HCO4 HI4 HU4 ⊢
  have m8 : w4.cell? ⟨mb, 8, none⟩ = some (.slice ka m.code.length kc) := by rw [cell_of HB4.out]; rfl
  have m9 : w4.cell? ⟨mb, 9, none⟩ = some (.slice none 0 0) := by rw [cell_of HB4.out]; rfl
  have f9 := froz_of HB4.out 9
  obtain ⟨Z, hZ, hmk⟩ : ∃ Z : Array Value, Z = (List.replicate m.code.length (Value.pointer none)).toArray ∧ (Instr.makeSlice 145 (.int .i64 (m.code.length : Int)) (.int .i64 (m.code.length : Int))).run Tryz.prog w4 = .ok (.slice (some ⟨w4.heap.size, 0, none⟩) m.code.length m.code.length) (w4.alloc (.cells Z 148)) := ⟨_, rfl, make_setsL w4 m.code.length (by omega)⟩
  have hu5 := (Upd.refl [] w4).alloc (.cells Z 148)
  have hm9 := hu5.cell m9 (by simp)
  have hb5 := hu5.heap HB4.out (by simp)
  have hf9 := froz_of hb5 9
  have hz5 := heap_alloc_new w4 (.cells Z 148)
  have HZ := Lib.hid hZ
  clear hZ
  go_upto_region 4 with fail
  have hst := (Upd.refl [mb] (w4.alloc (.cells Z 148))).setCell (p := ⟨mb, 9, none⟩) (.inl (by simp)) (.slice (some ⟨w4.heap.size, 0, none⟩) m.code.length m.code.length)
  have hmlt := lt_of_heap HB4.out
  have HB6 : Hid (((w4.alloc (.cells Z 148)).setCell ⟨mb, 9, none⟩ (.slice (some ⟨w4.heap.size, 0, none⟩) m.code.length m.code.length)).heap[mb]? = some (.cells (mapCells ib k 0 1 m (.slice ka m.code.length kc) (.slice (some ⟨w4.heap.size, 0, none⟩) m.code.length m.code.length)) 147)) := heap_setCell hb5 9 _
  have HL6 := Lib.hid ((LSets.start (w := w4.alloc (.cells Z 148)) (lb := w4.heap.size) (n := m.code.length) (nk := (kindsL m).length) w.heap.size (seenF s) (by rw [hz5, HZ.out])).upd hst (by simp; omega) (fun i _ hs => by simp [upto] at hs))
  have HCO6 := Lib.hid ((HCO4.out.upd hu5).off hst (map_no_ins hb5 (by simp) (by simp)))
  have HI6 := Lib.hid ((HI4.out.keep hu5 (by simp)).keep hst (by simp; omega))
  have HU6 := Lib.hid ((HU4.out.trans (hu5.mono (T := [mb]) (by simp))).trans hst)
  have hlb := HU4.out.size
  clear hst hb5 hz5 hu5 hmk hm9 hf9 f9 m8 m9 HB4 HCO4 HI4 HU4 HZ
  generalize (w4.alloc (.cells Z 148)).setCell ⟨mb, 9, none⟩ (.slice (some ⟨w4.heap.size, 0, none⟩) m.code.length m.code.length) = w6 at HB6 HL6 HCO6 HI6 HU6 ⊢
  generalize w4.heap.size = lb at HB6 HL6 hlb hmlt ⊢
  have m9 : w6.cell? ⟨mb, 9, none⟩ = some (.slice (some ⟨lb, 0, none⟩) m.code.length m.code.length) := by rw [cell_of HB6.out]; rfl
  go_wp2_with fail
  go_loopw [54] (fun iv wr => ∃ (j : Nat) (bk gk : Nat → Nat), j ≤ m.code.length ∧ iv = .int .i64 j ∧ Hid (LSets wr w.heap.size lb m.code.length (kindsL m).length (upto (seenF s) j) (fun _ _ => false) bk gk) ∧ Hid (InfoK W0 wr ib p ss n0 (a0 + j)) ∧ Hid (wr.heap[mb]? = some (.cells (mapCells ib k 0 1 m (.slice ka m.code.length kc) (.slice (some ⟨lb, 0, none⟩) m.code.length m.code.length)) 147)) ∧ Hid (Upd [lb, ib] w6 wr)) (fun iv _ => m.code.length - (intOf iv).toNat)
  case atStart => exact ⟨0, _, _, by omega, rfl, HL6.out, by rw [Int.natCast_zero, Int.add_zero]; exact HI6.out, HB6.out, Upd.refl _ _⟩
  case round =>
    obtain ⟨j, bk, gk, hj, rfl, HL, HI, HB, HU⟩ := hrel
    obtain ⟨wo, rfl⟩ : ∃ wo : World, wo = wr := ⟨_, rfl⟩
    clear m9
    by_cases hlt : j < m.code.length
    · have m0 : wo.cell? ⟨mb, 0, none⟩ = some (.pointer (some ⟨ib, 0, none⟩)) := by rw [cell_of HB.out]; rfl
      have m1 : wo.cell? ⟨mb, 1, none⟩ = some (.int .i64 k) := by rw [cell_of HB.out]; rfl
      have d0 : wo.drew.cell? ⟨mb, 0, none⟩ = some (.pointer (some ⟨ib, 0, none⟩)) := m0
      have d1 : wo.drew.cell? ⟨mb, 1, none⟩ = some (.int .i64 k) := m1
      have HID := Lib.hid (HI.out.keep (Upd.refl [] wo).drew (by simp))
      have HSK := Lib.hid (stack_in2 ib p ss (a0 + j) k (j : Int) wo.drew HID.out.now hl hk (by rw [← HMD.out]; omega) (by omega) (by omega))
      obtain ⟨tv, bv, hav⟩ := atV_form (ss.getD k default) (p.ms.getD k default).code.length (j : Int)
      have HAV := Lib.hid hav
      clear hav
      go_wp2_with fail
      go_region_held3 (fun w' => w'.cell? ⟨mb, 0, none⟩ = some (.pointer (some ⟨ib, 0, none⟩)) ∧ w'.cell? ⟨mb, 1, none⟩ = some (.int .i64 k))
        (first | exact ⟨m0, m1⟩ | exact ⟨d0, d1⟩ | exact ⟨k0, k1⟩ | go_keep)
        ((go_at_call 110; refine HSK.out.mono ?_; rintro e w8 ⟨rfl, _, hu8, hst8⟩; rw [HAV.out]; have k0 := hu8.cell d0 (by simp; exact HMI.out); have k1 := hu8.cell d1 (by simp; exact HMI.out); have HI8 := Lib.hid (HID.out.step hu8 hst8); have HU8 := Lib.hid hu8; clear hu8 hst8))
      rename_i hheld
      clear hheld
      have hbv : bv = seenF s j := by
        have h2 := HAV.out
        unfold atV at h2
        rw [Int.toNat_natCast, ← HMD.out, ← HSD.out] at h2
        unfold seenF
        by_cases hs : s.seen.getD j false = true
        · rw [if_pos ⟨by omega, by omega, hs⟩] at h2
          injection h2 with h2
          simp at h2
          rw [h2.2, hs]
        · rw [if_neg (fun h => hs h.2.2)] at h2
          injection h2 with h2
          simp at h2
          rw [h2.2]
          simpa using hs
      have HBV := Lib.hid hbv
      have hwL : w.heap.size ≤ lb := hlb
      have HL8 := Lib.hid ((HL.out.upd (Upd.refl [] wo).drew (by simp) (by simp)).upd HU8.out (by simp; omega) (fun i hi hs => by have := HL.out.far i hi hs; simp; omega))
      have HB8 := Lib.hid (HU8.out.heap (((Upd.refl [] wo).drew).heap HB.out (by simp)) (by simp; exact HMI.out))
      have HUq : Hid (Upd [lb, ib] w6 w8) := HU.out.drew.trans (HU8.out.mono (T := [lb, ib]) (by simp))
      have HIq : Hid (InfoK W0 w8 ib p ss n0 (a0 + ((j + 1 : Nat) : Int))) := by
        have h3 := HI8.out
        rw [show a0 + (j : Int) + 1 = a0 + ((j + 1 : Nat) : Int) by omega] at h3
        exact h3
      clear hbv HU8 HI8 HL HB HU HI HID HSK HAV k0 k1 d0 d1 m0 m1
      cases bv with
      | false =>
        have HLn := Lib.hid (HL8.out.skip HBV.out.symm)
        go_wp2_with fail
        go_roundw
        case rel => exact ⟨j + 1, bk, gk, by omega, by go_num, HLn.out, HIq.out, HB8.out, HUq.out⟩
        case measure => simp [intOf]; omega
      | true =>
        have c5 : w8.cell? ⟨mb, 5, none⟩ = some (.string m.params) := by rw [cell_of HB8.out]; rfl
        have c6 : w8.cell? ⟨mb, 6, none⟩ = some (.string m.locals) := by rw [cell_of HB8.out]; rfl
        have c7 : w8.cell? ⟨mb, 7, none⟩ = some (.string m.ret) := by rw [cell_of HB8.out]; rfl
        have c8 : w8.cell? ⟨mb, 8, none⟩ = some (.slice ka m.code.length kc) := by rw [cell_of HB8.out]; rfl
        have c9 : w8.cell? ⟨mb, 9, none⟩ = some (.slice (some ⟨lb, 0, none⟩) m.code.length m.code.length) := by rw [cell_of HB8.out]; rfl
        have HK8 := Lib.hid (kinds_any m (.slice ka m.code.length kc) w8.drew (by omega) (by omega))
        have HC8 : Hid (w8.drew.cell? ⟨mb, 5, none⟩ = some (.string m.params) ∧ w8.drew.cell? ⟨mb, 6, none⟩ = some (.string m.locals) ∧ w8.drew.cell? ⟨mb, 7, none⟩ = some (.string m.ret) ∧ w8.drew.cell? ⟨mb, 8, none⟩ = some (.slice ka m.code.length kc) ∧ w8.drew.cell? ⟨mb, 9, none⟩ = some (.slice (some ⟨lb, 0, none⟩) m.code.length m.code.length)) := ⟨c5, c6, c7, c8, c9⟩
        have d9 : w8.drew.cell? ⟨mb, 9, none⟩ = some (.slice (some ⟨lb, 0, none⟩) m.code.length m.code.length) := c9
        have HBS : Hid ((bs (kindsL m)).size = (kindsL m).length) := by show _ = _; rw [bs_size]
        have HNK : Hid ((kindsL m).length ≤ 24) := by
          show _ ≤ _
          unfold kindsL
          rw [List.length_append, ← size_list, ← size_list]
          omega
        have hcl8 := HL8.out.cell j hlt
        have HLD := Lib.hid (HL8.out.upd (Upd.refl [] w8).drew (by simp) (by simp))
        go_upto_region 9 with fail
        go_region_held3 (fun w' => w'.cell? ⟨mb, 5, none⟩ = some (.string m.params) ∧ w'.cell? ⟨mb, 6, none⟩ = some (.string m.locals) ∧ w'.cell? ⟨mb, 7, none⟩ = some (.string m.ret) ∧ w'.cell? ⟨mb, 8, none⟩ = some (.slice ka m.code.length kc) ∧ w'.cell? ⟨mb, 9, none⟩ = some (.slice (some ⟨lb, 0, none⟩) m.code.length m.code.length))
          (first | exact HC8.out | exact HC9.out | exact HC10.out | exact HC11.out _ | go_keep)
          (first
            | (go_at_call 63; refine HK8.out.mono ?_; rintro e w9 ⟨rfl, hu9⟩; have HC9 := Lib.hid (⟨hu9.cell HC8.out.1 (by simp), hu9.cell HC8.out.2.1 (by simp), hu9.cell HC8.out.2.2.1 (by simp), hu9.cell HC8.out.2.2.2.1 (by simp), hu9.cell HC8.out.2.2.2.2 (by simp)⟩ : _ ∧ _ ∧ _ ∧ _ ∧ _); have HU9 := Lib.hid hu9; have HL9 := Lib.hid (HLD.out.upd hu9 (by simp) (by simp)); clear hu9)
            | (go_at_call 92; rw [HBS.out]; refine (bnew (kindsL m).length w9 (by have := HNK.out; omega)).mono ?_; rintro e w10 ⟨rfl, hset, hu10, hsz10⟩; have HC10 := Lib.hid (⟨hu10.cell HC9.out.1 (by simp), hu10.cell HC9.out.2.1 (by simp), hu10.cell HC9.out.2.2.1 (by simp), hu10.cell HC9.out.2.2.2.1 (by simp), hu10.cell HC9.out.2.2.2.2 (by simp)⟩ : _ ∧ _ ∧ _ ∧ _ ∧ _); have HSET := Lib.hid hset; have HL10 := HL9.out.upd hu10 (by simp) (by simp); have z10 := froz_of HL10.tab j; have c10 := HL10.cell j hlt; have HU10 := Lib.hid hu10; have HC11 := Lib.hid (fun v => (⟨((Upd.refl [lb] w10).setCell (p := ⟨lb, j, none⟩) (.inl (by simp)) v).cell HC10.out.1 (by simp; omega), ((Upd.refl [lb] w10).setCell (p := ⟨lb, j, none⟩) (.inl (by simp)) v).cell HC10.out.2.1 (by simp; omega), ((Upd.refl [lb] w10).setCell (p := ⟨lb, j, none⟩) (.inl (by simp)) v).cell HC10.out.2.2.1 (by simp; omega), ((Upd.refl [lb] w10).setCell (p := ⟨lb, j, none⟩) (.inl (by simp)) v).cell HC10.out.2.2.2.1 (by simp; omega), ((Upd.refl [lb] w10).setCell (p := ⟨lb, j, none⟩) (.inl (by simp)) v).cell HC10.out.2.2.2.2 (by simp; omega)⟩ : _ ∧ _ ∧ _ ∧ _ ∧ _)); clear hu10 hset HL10))
        rename_i hheld
        clear hheld HC8 HC9 HC10 HC11 c5 c6 c7 c8 c9 d9 c10 z10 hcl8
        have hs6 := HU6.out.size
        have hsq := HUq.out.size
        have hs9 := HU9.out.size
        have hd8 : w8.drew.heap.size = w8.heap.size := rfl
        have HLn := Lib.hid (HL9.out.new HBV.out.symm hlt HU10.out (by omega) (by omega) (by omega) HSET.out)
        have hA : Upd [] w8 w10 := ((Upd.refl [] w8).drew.trans HU9.out).trans HU10.out
        have hst := (Upd.refl [lb] w10).setCell (p := ⟨lb, j, none⟩) (.inl (by simp)) (.pointer (some ⟨w9.heap.size + 1, 0, none⟩))
        have HBn := Lib.hid (hst.heap (hA.heap HB8.out (by simp)) (by simp; omega))
        have HIn := Lib.hid ((HIq.out.keep hA (by simp)).keep hst (by simp; omega))
        have HUn : Hid (Upd [lb, ib] w6 _) := (HUq.out.trans (hA.mono (T := [lb, ib]) (by simp))).trans (hst.mono (T := [lb, ib]) (by simp))
        clear hA hst HL9 HU9 HU10 HLD HSET HL8 HB8 HUq HIq hd8 hs9 hsq
        generalize w10.setCell ⟨lb, j, none⟩ (.pointer (some ⟨w9.heap.size + 1, 0, none⟩)) = w11 at HLn HBn HIn HUn ⊢
        go_wp2_with fail
        go_roundw
        case rel => exact ⟨j + 1, _, _, by omega, by go_num, HLn.out, HIn.out, HBn.out, HUn.out⟩
        case measure => simp [intOf]; omega
    · obtain rfl : j = m.code.length := by omega
      have hgood := HLK.out k hk
      rw [← HMD.out, ← HSD.out] at hgood
      have hsl := (look_good (by omega) hgood).2.1.seen
      have hup : upto (seenF s) m.code.length = seenF s := by
        funext i
        unfold upto
        by_cases hi : i < m.code.length
        · rw [decide_eq_true hi, Bool.true_and]
        · rw [decide_eq_false hi, Bool.false_and]
          unfold seenF
          rw [List.getD_eq_getElem?_getD, List.getElem?_eq_none (by omega)]
          rfl
      have HSL := Lib.hid hsl
      have HGOOD := Lib.hid hgood
      have hLx := HL.out
      rw [hup] at hLx
      have hs6 := HU6.out.size
      have hTw := HT.out
      have htlt := hTw.lt
      have HUW : Hid (Upd [mb, ib] w wo) := (HU6.out.mono (T := [mb, ib]) (by simp)).trans' HU.out (fun q hq hl => by simp at hq ⊢; omega)
      have HMI2 : Hid (MapIn wo w.heap.size mb lb ib (kindsL m).length k 0 1 m (.slice ka m.code.length kc) (seenF s) (fun _ _ => false) bk gk) :=
        ⟨HB.out, HCO6.out.offs HU.out (fun B hB o x => by
            rcases List.mem_cons.1 hB with rfl | hB
            · exact HL6.out.no_ins o x
            · simp at hB; subst hB; exact HI6.out.now.no_ins o x), hLx, hTw.upd HUW.out (by simp; exact ⟨fun e => HTM.out e.symm, fun e => HTI.out e.symm⟩), rfl, by omega, by omega, by omega, fun pc q hq => by
            have := HOK.out.nexts hk pc
            rw [← HMD.out] at this
            exact this q hq⟩
      have HIX := Lib.hid HI.out
      clear HL HI HB HU HL6 HI6 HB6 HCO6 hup hLx hTw hsl hgood
      go_wp2_with fail
      go_loopw [6] (fun cv wr => ∃ (F : Nat → Nat → Bool) (c : Bool), cv = .bool c ∧ Hid (MapIn wr w.heap.size mb lb ib (kindsL m).length k 0 1 m (.slice ka m.code.length kc) (seenF s) F bk gk) ∧ Hid (SoundF m.code (seenF s) F) ∧ Hid (c = false → ∀ pc, pc < m.code.length → seenF s pc = true → ∀ q, ahF m.code (seenF s) (kindsL m).length F pc q = true → F pc q = true) ∧ Hid (InfoK W0 wr ib p ss n0 (a0 + (m.code.length : Int))) ∧ Hid (Upd [mb, ib] w wr)) (fun cv wr => cntF m.code.length (kindsL m).length (bitW wr lb) + chM cv)
      case atStart => exact ⟨_, true, rfl, HMI2.out, sound_zero _ _, Hid.mk (fun h => by cases h), HIX.out, HUW.out⟩
      case round =>
        obtain ⟨F, c, rfl, HM, HSF, HCF, HI, HU⟩ := hrel
        obtain ⟨wl, rfl⟩ : ∃ wl : World, wl = wr := ⟨_, rfl⟩
        clear HMI2 HIX HUW
        cases c with
        | false =>
          go_wp2_with fail
          go_end0
          refine ⟨rfl, lb, _, F, ⟨bk, gk, HM.out⟩, closed_is (nk := (kindsL m).length) HSF.out (fun pc hs q hq => HCF.out (by trivial) pc (by
              have := HSL.out
              unfold seenF at hs
              refine Decidable.byContradiction fun hc => ?_
              rw [List.getD_eq_getElem?_getD, List.getElem?_eq_none (by omega)] at hs
              cases hs) hs q hq) (fun pc hs h3 => ?_) (fun i hs => ?_) (fun pc _ q hq => HM.out.next pc q hq), HI.out, HU.out⟩
          · have hpc : pc < m.code.length := by
              have := HSL.out
              unfold seenF at hs
              refine Decidable.byContradiction fun hc => ?_
              rw [List.getD_eq_getElem?_getD, List.getElem?_eq_none (by omega)] at hs
              cases hs
            have h4 := HOK.out.load hk (pc := pc) (by rw [← HMD.out]; exact hpc) (by rw [← HMD.out]; exact .inl h3)
            rw [← HMD.out] at h4
            exact h4.2
          · have := HSL.out
            unfold seenF at hs
            refine Decidable.byContradiction fun hc => ?_
            rw [List.getD_eq_getElem?_getD, List.getElem?_eq_none (by omega)] at hs
            cases hs
        | true =>
          have m9 : wl.cell? ⟨mb, 9, none⟩ = some (.slice (some ⟨lb, 0, none⟩) m.code.length m.code.length) := by rw [cell_of HM.out.box]; rfl
          go_wp2_with fail
          go_loopw [6, 7] (fun cv pv wr => ∃ (F2 : Nat → Nat → Bool) (c : Bool) (i : Nat), i ≤ m.code.length ∧ cv = .bool c ∧ pv = .int .i64 ((i : Int) - 1) ∧ Hid (MapIn wr w.heap.size mb lb ib (kindsL m).length k 0 1 m (.slice ka m.code.length kc) (seenF s) F2 bk gk) ∧ Hid (SoundF m.code (seenF s) F2) ∧ Hid (c = false → F2 = F ∧ ∀ pc, i ≤ pc → pc < m.code.length → seenF s pc = true → ∀ q, ahF m.code (seenF s) (kindsL m).length F pc q = true → F pc q = true) ∧ Hid (∀ a q, F a q = true → F2 a q = true) ∧ Hid (c = true → cntF m.code.length (kindsL m).length F2 < cntF m.code.length (kindsL m).length F) ∧ Hid (InfoK W0 wr ib p ss n0 (a0 + (m.code.length : Int))) ∧ Hid (Upd [mb, ib] w wr)) (fun _ pv _ => (intOf pv + 1).toNat)
          case atStart => exact ⟨F, false, m.code.length, by omega, rfl, rfl, HM.out, HSF.out, Hid.mk (fun _ => ⟨rfl, fun pc h1 h2 => absurd h2 (by omega)⟩), Hid.mk (fun _ _ h => h), Hid.mk (fun h => by cases h), HI.out, HU.out⟩
          case round =>
            obtain ⟨F2, c, i, hi, rfl, rfl, HM2, HS2, HC2, HLE2, HCT2, HI2, HU2⟩ := hrel
            obtain ⟨wo2, rfl⟩ : ∃ wo2 : World, wo2 = wr := ⟨_, rfl⟩
            clear HI HU m9
            by_cases h0i : i = 0
            · subst h0i
              go_wp2_with fail
              refine ⟨⟨F2, c, rfl, HM2.out, HS2.out, Hid.mk (fun hc pc hpc hs q hq => ?_), HI2.out, HU2.out⟩, ?_⟩
              · obtain ⟨h1, h2⟩ := HC2.out hc
                rw [h1] at hq ⊢
                exact h2 pc (by omega) hpc hs q hq
              · rw [HM2.out.sets.cnt, HM.out.sets.cnt]
                cases c with
                | true =>
                  have h3 := HCT2.out (by trivial)
                  show _ + 1 < _ + 1
                  omega
                | false =>
                  have h3 := (HC2.out (by trivial)).1
                  rw [h3]
                  show _ + 0 < _ + 1
                  omega
            · obtain ⟨q, rfl⟩ : ∃ q, i = q + 1 := ⟨i - 1, by omega⟩
              rw [show ((q + 1 : Nat) : Int) - 1 = (q : Int) by omega]
              clear h0i
              have m9 : wo2.cell? ⟨mb, 9, none⟩ = some (.slice (some ⟨lb, 0, none⟩) m.code.length m.code.length) := by rw [cell_of HM2.out.box]; rfl
              have hcq := HM2.out.sets.cell q (by omega)
              unfold ptrV at hcq
              have hq2 : q < m.code.length := by omega
              have hq3 : (q : Int) < (m.code.length : Int) := by omega
              by_cases hs : seenF s q = true
              · rw [if_pos hs] at hcq
                have HS := Lib.hid hs
                have d9 : wo2.drew.cell? ⟨mb, 9, none⟩ = some (.slice (some ⟨lb, 0, none⟩) m.code.length m.code.length) := m9
                have dcq : wo2.drew.cell? ⟨lb, q, none⟩ = some (.pointer (some ⟨bk q, 0, none⟩)) := hcq
                have HMD2 := Lib.hid (HM2.out.upd (Upd.refl [] wo2).drew)
                have HAH := Lib.hid (ahead_any w.heap.size mb lb ib (kindsL m).length k 0 1 m (.slice ka m.code.length kc) (seenF s) F2 bk gk q wo2.drew HMD2.out hq2)
                obtain ⟨ws, hws1, hws2⟩ := HM2.out.sets.set q hq2 hs
                have hfar := HM2.out.sets.far q hq2 hs
                have hgl := HM2.out.sets.gs_lb q hq2 hs
                have HWS1 := Lib.hid hws1
                have HWS2 := Lib.hid hws2
                have HGL := Lib.hid hgl
                have HNK : Hid ((kindsL m).length ≤ 24) := HM2.out.nk_le
                have hneg : gk q ≠ mb := by omega
                clear hs hws1 hws2 hgl
                go_upto_region 17 with fail
                go_region_held3 (fun w' => w'.cell? ⟨mb, 9, none⟩ = some (.slice (some ⟨lb, 0, none⟩) m.code.length m.code.length) ∧ w'.cell? ⟨lb, q, none⟩ = some (.pointer (some ⟨bk q, 0, none⟩)))
                  (first | exact ⟨m9, hcq⟩ | exact ⟨d9, dcq⟩ | exact ⟨k9, kcq⟩ | exact ⟨j9, jcq⟩ | go_keep)
                  (first
                    | (go_at_call 111; refine HAH.out.mono ?_; rintro e w3 ⟨ob, og, ows, rfl, oset, oget, hob, hog, hu3⟩; have k9 := hu3.cell d9 (by simp); have kcq := hu3.cell dcq (by simp); have HOS := Lib.hid oset; have HOG := Lib.hid oget; have HM3 := Lib.hid (HMD2.out.upd hu3); have HU3 := Lib.hid hu3; have HWS3 := Lib.hid ((HWS1.out.upd (Upd.refl [] wo2).drew (by simp) (by simp)).upd hu3 (by simp) (by simp)); clear oset oget hu3 hob hog)
                    | (go_at_call 93; refine (bjoin_any (bk q) (gk q) (kindsL m).length ob og (kindsL m).length ws ows w3 HWS3.out HOS.out HM3.out.tz (by omega) (by have := HNK.out; omega)).mono ?_; rintro e w4 ⟨av, ws4, rfl, hs4, hget4, hav1, hav2, hu4⟩; have j9 := hu4.cell k9 (by simp; omega); have jcq := hu4.cell kcq (by simp; exact fun e => HGL.out e.symm); have HS4 := Lib.hid hs4; have HG4 := Lib.hid hget4; have HA1 := Lib.hid hav1; have HA2 := Lib.hid hav2; have HU4 := Lib.hid hu4; clear hs4 hget4 hav1 hav2 hu4))
                rename_i hheld
                clear hheld
                have hget : ∀ x, bhas ws4 x = (F2 q x || ahF m.code (seenF s) (kindsL m).length F2 q x) := fun x => by
                  rw [HG4.out, HWS2.out, HOG.out]
                  cases hx : ahF m.code (seenF s) (kindsL m).length F2 q x with
                  | false => simp
                  | true =>
                    have h7 := HOS.out.2.2.2.2.2 x (by rw [HOG.out]; exact hx)
                    rw [decide_eq_true h7]
                    simp
                have HM4 := Lib.hid (HM3.out.put hq2 HS.out HU4.out HS4.out hmbw (by omega))
                have HS5 := Lib.hid (put_sound HS2.out HS.out hget)
                have hp2 : ∀ a x, F2 a x = true → putF F2 q (bhas ws4) a x = true := putF_le (fun x hx => by rw [hget, hx]; rfl)
                have HLE5 : Hid (∀ a x, F a x = true → putF F2 q (bhas ws4) a x = true) := Hid.mk (fun a x h => hp2 a x (HLE2.out a x h))
                have HI5 := Lib.hid (((HI2.out.keep (Upd.refl [] wo2).drew (by simp)).keep HU3.out (by simp)).keep HU4.out (by simp; omega))
                have HU5 : Hid (Upd [mb, ib] w w4) := ((HU2.out.drew).trans (HU3.out.mono (T := [mb, ib]) (by simp))).trans' HU4.out (fun x hx hl => by simp at hx; omega)
                have HGET := Lib.hid hget
                clear hget hp2 HG4 HM3 HU3 HWS3 HWS1 HMD2 HAH j9 jcq k9 kcq d9 dcq m9 hcq HI2 HU2
                cases av with
                | false =>
                  have hsame : putF F2 q (bhas ws4) = F2 := putF_same (fun x => by rw [HA2.out (by trivial), HWS2.out])
                  rw [hsame] at HM4 HS5
                  have HC5 : Hid (c = false → F2 = F ∧ ∀ pc, q ≤ pc → pc < m.code.length → seenF s pc = true → ∀ q, ahF m.code (seenF s) (kindsL m).length F pc q = true → F pc q = true) := Hid.mk (fun hc => ⟨(HC2.out hc).1, fun pc h1 h2 h3 x hx => by
                    by_cases e : pc = q
                    · subst e
                      have hF := (HC2.out hc).1
                      rw [← hF] at hx ⊢
                      have h8 := HGET.out x
                      rw [HA2.out (by trivial), HWS2.out, hx, Bool.or_true] at h8
                      exact h8
                    · exact (HC2.out hc).2 pc (by omega) h2 h3 x hx⟩)
                  clear hsame
                  go_wp2_with fail
                  go_roundw
                  case rel => exact ⟨F2, c, q, by omega, rfl, by go_num, HM4.out, HS5.out, HC5.out, HLE2.out, HCT2.out, HI5.out, HU5.out⟩
                  case measure => simp [intOf]
                | true =>
                  have HCT5 : Hid (true = true → cntF m.code.length (kindsL m).length (putF F2 q (bhas ws4)) < cntF m.code.length (kindsL m).length F) := Hid.mk (fun _ => by
                    obtain ⟨x, hx1, hx2⟩ := HA1.out (by trivial)
                    have hxn := HS4.out.2.2.2.2.2 x hx1
                    refine cntF_lt HLE5.out hq2 hxn (by unfold putF; rw [if_pos rfl]; exact hx1) ?_
                    rw [HWS2.out] at hx2
                    cases hF : F q x with
                    | false => rfl
                    | true => rw [HLE2.out q x hF] at hx2; cases hx2)
                  go_wp2_with fail
                  go_roundw
                  case rel => exact ⟨_, true, q, by omega, rfl, by go_num, HM4.out, HS5.out, Hid.mk (fun h => by cases h), HLE5.out, HCT5.out, HI5.out, HU5.out⟩
                  case measure => simp [intOf]
              · rw [if_neg hs] at hcq
                have HC9 : Hid (c = false → F2 = F ∧ ∀ pc, q ≤ pc → pc < m.code.length → seenF s pc = true → ∀ q, ahF m.code (seenF s) (kindsL m).length F pc q = true → F pc q = true) := Hid.mk (fun hc => ⟨(HC2.out hc).1, fun pc h1 h2 h3 => by
                  by_cases e : pc = q
                  · subst e; exact absurd h3 hs
                  · exact (HC2.out hc).2 pc (by omega) h2 h3⟩)
                have HM9 := fun n => Lib.hid (HM2.out.upd ((Upd.refl [] wo2).drewN n))
                have HI9 := fun n => Lib.hid (HI2.out.keep ((Upd.refl [] wo2).drewN n) (by simp))
                clear hq3 hs
                go_upto_region 17 with fail
                go_quiet (fail)
                go_wp2_with fail
                go_roundw
                case rel => exact ⟨F2, c, q, by omega, rfl, by go_num, (HM9 _).out, HS2.out, HC9.out, HLE2.out, HCT2.out, (HI9 _).out, HU2.out.drewN _⟩
                case measure => simp [intOf]
end Go.Proofs.YtpmfbhoochogoaaGreatDoor

/-! (Of a live map; turned from XOnce1; the two literal type numbers are *internal/sync.Mutex and unsafe.Pointer of the seat ZD of round 7.) sync.Once.Do with the lock free: not yet done (whatever the function does, as its contract says), and done. sync.Once.doSlow, Do: not yet done, the lock free: whatever the function does, as its contract says. live.Map.at: what is live ahead of an instruction, worked out once. live.Map.Locals, Has, Behind. -/
/-! (Of a live map; turned from XOnce1; the two literal type numbers are *internal/sync.Mutex and unsafe.Pointer of the seat ZD of round 7.) sync.Once.Do with the lock free: not yet done (whatever the function does, as its contract says), and done. sync.Once.doSlow, Do: not yet done, the lock free: whatever the function does, as its contract says. -/
/-! sync.Once.Do with the lock free: not yet done (whatever the function does, as its contract says), and done. -/
namespace Go.Proofs.YtpmfbhoochogoaaGreatDoor
open Go.RowKit

theorem raceDisable (w : World) : (callFunc 173 #[]).run Tryz.prog w = .ok (.value (.tuple #[])) w := run_call_mark0 Tryz.func173 (by kernel_rfl) (by kernel_rfl) (by kernel_rfl) .disable (by kernel_rfl) w
theorem raceEnable (w : World) : (callFunc 175 #[]).run Tryz.prog w = .ok (.value (.tuple #[])) w := run_call_mark0 Tryz.func175 (by kernel_rfl) (by kernel_rfl) (by kernel_rfl) .enable (by kernel_rfl) w
theorem raceAcquire (a : Addr) (w : World) : (callFunc 176 #[.pointer (some a)]).run Tryz.prog w = .ok (.value (.tuple #[])) w := run_call_marked Tryz.func176 (by kernel_rfl) (by kernel_rfl) (by kernel_rfl) .acquire (by kernel_rfl) a w
theorem raceReleaseMerge (a : Addr) (w : World) : (callFunc 178 #[.pointer (some a)]).run Tryz.prog w = .ok (.value (.tuple #[])) w := run_call_marked Tryz.func178 (by kernel_rfl) (by kernel_rfl) (by kernel_rfl) .releaseMerge (by kernel_rfl) a w

theorem store_deferred (a : Addr) (x : Value) (u : FrameMode) (w : World) (hc : w.cell? a = some x) (hz : w.frozen? a = false) :
    CallsD Tryz.prog 138 #[.pointer (some a), .bool true] u w fun e u' w' => u' = u ∧ (e = .returned (.tuple #[]) ∧ w' = w.drew.setCell a (.int .u32 1)) := by
  have hc' : w.drew.cell? a = some x := by go_simp
  have hz' : w.drew.frozen? a = false := by go_simp
  have hst := run_call_store (P := Tryz.prog) Tryz.func162 (by kernel_rfl) (by kernel_rfl) (by kernel_rfl) (by kernel_rfl) (k := .u32) (y := 1) hc' hz'
  go_enter_d Tryz.func138, Tryz.ntmps138
  go_wp2
  go_region_calls
  all_goals (go_end0; exact ⟨rfl, rfl⟩)

set_option maxRecDepth 100000 in
theorem unlock_deferred (a : Addr) (u : FrameMode) (w : World) (hc : w.cell? a = some (.int .i32 1)) (hz : w.frozen? a = false) :
    CallsD Tryz.prog 137 #[.pointer (some a)] u w fun e u' w' => u' = u ∧ (e = .returned (.tuple #[]) ∧ w' = w.setCell a (.int .i32 0)) := by
  have hd := raceDisable
  have he := raceEnable
  have hr := raceReleaseMerge
  have hadd := run_call_add (P := Tryz.prog) Tryz.func179 (by kernel_rfl) (by kernel_rfl) (by kernel_rfl) .i32 (by kernel_rfl) (y := -1) (s := 0) hc hz (by simp [go_sem]; rfl)
  have hcv := run_convert_to_unsafe (P := Tryz.prog) (src := 251) (dst := 255) Tryz.underlying251 Tryz.underlying255 (by kernel_rfl) hc
  go_enter_d Tryz.func137, Tryz.ntmps137
  go_wp2
  go_end0
  go_wp2
  go_end0
  exact ⟨rfl, rfl⟩

set_option maxRecDepth 100000 in
theorem lock_free (a : Addr) (w : World) (hc : w.cell? a = some (.int .i32 0)) (hz : w.frozen? a = false) :
    Calls Tryz.prog 136 #[.pointer (some a)] w fun e w' => e = .returned (.tuple #[]) ∧ w' = w.setCell a (.int .i32 1) := by
  have hd := raceDisable
  have he := raceEnable
  have ha := raceAcquire
  have hcas := run_call_cas_hit (P := Tryz.prog) Tryz.func174 (by kernel_rfl) (by kernel_rfl) (by kernel_rfl) .i32 (by kernel_rfl) (y := 1) hc hz
  have hc' : (w.setCell a (.int .i32 1)).cell? a = some (.int .i32 1) := World.cell?_setCell_same w a _ hc
  have hcv := run_convert_to_unsafe (P := Tryz.prog) (src := 251) (dst := 255) Tryz.underlying251 Tryz.underlying255 (by kernel_rfl) hc'
  go_enter Tryz.func136, Tryz.ntmps136
  go_wp2
  first | go_end0 | (simp only [Exit.inBlock, Exit.then]; refine bodyPost_ret (results_none rfl _ _ _) rfl ?_) | refine bodyPost_ret (results_none rfl _ _ _) rfl ?_
  go_wp2
  go_end0
  exact ⟨rfl, rfl⟩

set_option maxRecDepth 100000 in
set_option maxHeartbeats 1600000 in
/-- '(*sync.Once).Do', done already: the function is not called. -/
theorem do_done (a : Addr) (d : Int) (hd : ¬ d = 0) (fv : Value) (w : World) (h0 : w.cell? a = some (.int .u32 d)) :
    Calls Tryz.prog 87 #[.pointer (some a), fv] w fun e w' => e = .returned (.tuple #[]) ∧ w' = w := by
  have hl := run_call_load (P := Tryz.prog) Tryz.func135 (by kernel_rfl) (by kernel_rfl) (by kernel_rfl) .u32 (by kernel_rfl) h0
  have hnot : ∀ (x : Bool) (w : World), (Op.unary .not (.bool x)).run Tryz.prog w = .ok (.bool (!x)) w := fun _ _ => rfl
  have hd' : (d != 0) = true := by simp [hd]
  go_enter Tryz.func87, Tryz.ntmps87
  go_wp2
  go_end0
  exact ⟨rfl, rfl⟩

theorem loadB_any (a : Addr) (d : Int) (w : World) (h0 : w.cell? a = some (.int .u32 d)) :
    Calls Tryz.prog 108 #[.pointer (some a)] w fun e w' => e = .returned (.bool (d != 0)) ∧ w' = w := by
  have hl := run_call_load (P := Tryz.prog) Tryz.func135 (by kernel_rfl) (by kernel_rfl) (by kernel_rfl) .u32 (by kernel_rfl) h0
  go_enter Tryz.func108, Tryz.ntmps108
  go_wp2
  go_ret
  exact ⟨rfl, rfl⟩

end Go.Proofs.YtpmfbhoochogoaaGreatDoor

/-! sync.Once.doSlow, Do: not yet done, the lock free: whatever the function does, as its contract says. -/
namespace Go.Proofs.YtpmfbhoochogoaaGreatDoor
open Go.RowKit

set_option maxRecDepth 100000 in
set_option maxHeartbeats 1600000 in
/-- The slow road: the lock is taken, the function called, 'done' stored, the lock let go. -/
theorem slow_first (tb : Nat) (w : World) (h0 : w.cell? ⟨tb, 2, none⟩ = some (.int .u32 0)) (h1 : w.cell? ⟨tb, 3, none⟩ = some (.int .i32 0)) (f1 : w.frozen? ⟨tb, 3, none⟩ = false) (Post : World → Prop)
    (hF : Calls Tryz.prog 88 #[.pointer (some ⟨tb, 0, none⟩)] (w.setCell ⟨tb, 3, none⟩ (.int .i32 1)) fun e w1 => e = .returned (.tuple #[]) ∧ Post w1)
    (hP : ∀ w1, Post w1 → w1.cell? ⟨tb, 2, none⟩ = some (.int .u32 0) ∧ w1.cell? ⟨tb, 3, none⟩ = some (.int .i32 1) ∧ w1.frozen? ⟨tb, 2, none⟩ = false ∧ w1.frozen? ⟨tb, 3, none⟩ = false) :
    Calls Tryz.prog 109 #[.pointer (some ⟨tb, 2, none⟩), .func (.func 88) #[.pointer (some ⟨tb, 0, none⟩)] #[]] w fun e w' => e = .returned (.tuple #[]) ∧ ∃ w1, Post w1 ∧ w' = (w1.drew.setCell ⟨tb, 2, none⟩ (.int .u32 1)).setCell ⟨tb, 3, none⟩ (.int .i32 0) := by
  have hl := run_call_load (P := Tryz.prog) Tryz.func135 (by kernel_rfl) (by kernel_rfl) (by kernel_rfl) .u32 (by kernel_rfl) (w := w.setCell ⟨tb, 3, none⟩ (.int .i32 1)) (a := ⟨tb, 2, none⟩) (x := 0) ((World.cell?_setCell_other _ ⟨tb, 3, none⟩ ⟨tb, 2, none⟩ _ (by simp)).trans h0)
  have hnot : ∀ (x : Bool) (w : World), (Op.unary .not (.bool x)).run Tryz.prog w = .ok (.bool (!x)) w := fun _ _ => rfl
  have HF := Lib.hid hF
  clear hF
  go_enter_defers Tryz.func109, Tryz.ntmps109
  go_wp2_with (go_at_call 136; refine (lock_free ⟨tb, 3, none⟩ _ h1 f1).mono ?_; rintro e w' ⟨rfl, rfl⟩)
  refine (loadB_any ⟨tb, 2, none⟩ 0 _ ((World.cell?_setCell_other _ ⟨tb, 3, none⟩ ⟨tb, 2, none⟩ _ (by simp)).trans h0)).mono ?_
  rintro e w' ⟨rfl, rfl⟩
  go_wp2_with fail
  refine HF.out.mono ?_
  rintro e w1 ⟨rfl, hp1⟩
  obtain ⟨p1, p2, p3, p4⟩ := hP w1 hp1
  go_wp2_with fail
  -- the door: two deferred calls, the last laid first
  refine leaves_cons (f := 138) (args := #[.pointer (some ⟨tb, 2, none⟩), .bool true]) (by simp) (by simp [go_sem]) ?_
  refine (store_deferred ⟨tb, 2, none⟩ (.int .u32 0) .returning _ p1 p3).mono ?_
  rintro e u' w'' ⟨rfl, rfl, rfl⟩
  refine leaves_cons (f := 137) (args := #[.pointer (some ⟨tb, 3, none⟩)]) (by simp [settle]) (by simp [go_sem]) ?_
  refine (unlock_deferred ⟨tb, 3, none⟩ _ _ ?_ (by simpa using p4)).mono ?_
  · refine (World.cell?_setCell_other _ ⟨tb, 2, none⟩ ⟨tb, 3, none⟩ _ (by simp)).trans ?_
    rw [World.cell?_drew]
    exact p2
  rintro e u' w'' ⟨rfl, rfl, rfl⟩
  simp [Leaves, settle, results, Tryz.results109]
  exact ⟨w1, hp1, rfl⟩

set_option maxRecDepth 100000 in
set_option maxHeartbeats 1600000 in
theorem do_first (tb : Nat) (w : World) (h0 : w.cell? ⟨tb, 2, none⟩ = some (.int .u32 0)) (h1 : w.cell? ⟨tb, 3, none⟩ = some (.int .i32 0)) (f1 : w.frozen? ⟨tb, 3, none⟩ = false) (Post : World → Prop)
    (hF : Calls Tryz.prog 88 #[.pointer (some ⟨tb, 0, none⟩)] (w.setCell ⟨tb, 3, none⟩ (.int .i32 1)) fun e w1 => e = .returned (.tuple #[]) ∧ Post w1)
    (hP : ∀ w1, Post w1 → w1.cell? ⟨tb, 2, none⟩ = some (.int .u32 0) ∧ w1.cell? ⟨tb, 3, none⟩ = some (.int .i32 1) ∧ w1.frozen? ⟨tb, 2, none⟩ = false ∧ w1.frozen? ⟨tb, 3, none⟩ = false) :
    Calls Tryz.prog 87 #[.pointer (some ⟨tb, 2, none⟩), .func (.func 88) #[.pointer (some ⟨tb, 0, none⟩)] #[]] w fun e w' => e = .returned (.tuple #[]) ∧ ∃ w1, Post w1 ∧ w' = (w1.drew.setCell ⟨tb, 2, none⟩ (.int .u32 1)).setCell ⟨tb, 3, none⟩ (.int .i32 0) := by
  have HSL := Lib.hid (slow_first tb w h0 h1 f1 Post hF hP)
  have HLD := Lib.hid (loadB_any ⟨tb, 2, none⟩ 0 w h0)
  have hnot : ∀ (x : Bool) (w : World), (Op.unary .not (.bool x)).run Tryz.prog w = .ok (.bool (!x)) w := fun _ _ => rfl
  clear hF hP h0 h1 f1
  go_enter Tryz.func87, Tryz.ntmps87
  go_wp2_with fail
  refine HLD.out.mono ?_
  rintro e w' ⟨rfl, rfl⟩
  go_wp2_with fail
  refine HSL.out.mono ?_
  rintro e w' ⟨rfl, w1, hp1, rfl⟩
  go_wp2_with fail
  go_end0
  exact ⟨rfl, w1, hp1, rfl⟩

end Go.Proofs.YtpmfbhoochogoaaGreatDoor

/-! live.Map.at: what is live ahead of an instruction, worked out once. -/
/-! live.Map.at. -/
namespace Go.Proofs.YtpmfbhoochogoaaGreatDoor
open Go.RowKit

/-- The box alone is turned. -/
theorem MapIn.reb {w w' : World} {B mb lb ib nk : Nat} {k d st d' st' : Int} {m : Meth} {kv : Value} {seen : Nat → Bool} {F : Nat → Nat → Bool} {bk gk : Nat → Nat} (h : MapIn w B mb lb ib nk k d st m kv seen F bk gk) (hu : Upd [mb] w w') (hb : w'.heap[mb]? = some (.cells (mapCells ib k d' st' m kv (.slice (some ⟨lb, 0, none⟩) m.code.length m.code.length)) 147)) (hmb : mb < B) (htm : 10 ≠ mb) :
    MapIn w' B mb lb ib nk k d' st' m kv seen F bk gk := by
  obtain ⟨ka, kc, hkv, hx⟩ := id h.code
  exact ⟨hb, h.code.off hu (map_no_ins h.box (by rw [hkv]; simp) (by simp)), h.sets.upd hu (by simp; exact heap_ne h.sets.tab h.box (by decide)) (fun i hi hs => by have := h.sets.far i hi hs; simp; omega), h.tz.upd hu (by simp; exact htm), h.kinds, h.par, h.loc, h.few, h.next⟩

/-- A map that has been worked out. -/
structure LvD (W0 w : World) (mb ib : Nat) (p : Prg) (ss : List Lk) (n0 n : Int) (k : Nat) (m : Meth) (s : Lk) (B lb : Nat) (kv : Value) (F : Nat → Nat → Bool) (bk gk : Nat → Nat) : Prop where
  inn : MapIn w B mb lb ib (kindsL m).length k 1 0 m kv (seenF s) F bk gk
  live : ∀ pc q, F pc q = true ↔ LiveR m.code (fun i => seenF s i = true) pc q
  info : InfoK W0 w ib p ss n0 n
/-- A map that has not. -/
structure LvNew (W0 w : World) (mb ib : Nat) (p : Prg) (ss : List Lk) (n0 n : Int) (k : Int) : Prop where
  box : w.heap[mb]? = some (.cells (mapCells ib k 0 0 nilM (.slice none 0 0) (.slice none 0 0)) 147)
  info : InfoK W0 w ib p ss n0 n
  tz : TzAt w
theorem LvD.upd {W0 w w' : World} {mb ib : Nat} {p : Prg} {ss : List Lk} {n0 n : Int} {k : Nat} {m : Meth} {s : Lk} {B lb : Nat} {kv : Value} {F : Nat → Nat → Bool} {bk gk : Nat → Nat} (h : LvD W0 w mb ib p ss n0 n k m s B lb kv F bk gk) (hu : Upd [] w w') : LvD W0 w' mb ib p ss n0 n k m s B lb kv F bk gk :=
  ⟨h.inn.upd hu, h.live, h.info.keep hu (by simp)⟩
theorem LvNew.upd {W0 w w' : World} {mb ib : Nat} {p : Prg} {ss : List Lk} {n0 n : Int} {k : Int} (h : LvNew W0 w mb ib p ss n0 n k) (hu : Upd [] w w') : LvNew W0 w' mb ib p ss n0 n k :=
  ⟨hu.heap h.box (by simp), h.info.keep hu (by simp), h.tz.upd hu (by simp)⟩
/-- What holds of the program that the map is of. -/
structure LvP (p : Prg) (ss : List Lk) (k : Nat) (m : Meth) (s : Lk) : Prop where
  len : ss.length = p.ms.length
  lt : k < p.ms.length
  ok : p.Ok
  look : ∀ j, j < p.ms.length → lookM p (p.ms.getD j default) = .ok (ss.getD j default)
  meth : m = p.ms.getD k default
  lk : s = ss.getD k default
theorem LvP.seen_lt {p : Prg} {ss : List Lk} {k : Nat} {m : Meth} {s : Lk} (h : LvP p ss k m s) {i : Nat} (hi : seenF s i = true) : i < m.code.length := by
  have h1 := h.look k h.lt
  rw [← h.meth, ← h.lk] at h1
  have h2 := h.ok.code1 k h.lt
  rw [← h.meth] at h2
  have h3 := (look_good (by omega) h1).2.1.seen
  refine Decidable.byContradiction fun hc => ?_
  unfold seenF at hi
  rw [List.getD_eq_getElem?_getD, List.getElem?_eq_none (by omega)] at hi
  cases hi
/-- A place's set. -/
def atP (n : Nat) (seen : Nat → Bool) (bk : Nat → Nat) (pc : Int) : Value := if 0 ≤ pc ∧ pc < (n : Int) then ptrV seen bk pc.toNat else .pointer none

theorem once_any (W0 : World) (mb ib : Nat) (p : Prg) (ss : List Lk) (n0 n : Int) (k : Nat) (m : Meth) (s : Lk) (w : World) (hP : LvP p ss k m s) (hw0 : W0.heap.size ≤ mb) (h0 : 0 ≤ n) (h1 : n ≤ 900000000)
    (h : LvNew W0 w mb ib p ss n0 n k ∨ ∃ B lb kv F bk gk, LvD W0 w mb ib p ss n0 n k m s B lb kv F bk gk) :
    Calls Tryz.prog 87 #[.pointer (some ⟨mb, 2, none⟩), .func (.func 88) #[.pointer (some ⟨mb, 0, none⟩)] #[]] w fun e w' => e = .returned (.tuple #[]) ∧ ∃ n', n ≤ n' ∧ n' ≤ n + 120 ∧ (∃ B lb kv F bk gk, LvD W0 w' mb ib p ss n0 n' k m s B lb kv F bk gk) ∧ Upd [mb, ib] w w' := by
  rcases h with h | ⟨B, lb, kv, F, bk, gk, h⟩
  · have hb := h.box
    have c2 : w.cell? ⟨mb, 2, none⟩ = some (.int .u32 0) := by rw [cell_of hb]; rfl
    have c3 : w.cell? ⟨mb, 3, none⟩ = some (.int .i32 0) := by rw [cell_of hb]; rfl
    have hmt : mb ≠ 10 := by
      rintro rfl
      have h2 := h.tz 0 (by decide)
      rw [cell_of hb] at h2
      cases h2
    have hst := (Upd.refl [mb] w).setCell (p := ⟨mb, 3, none⟩) (.inl (by simp)) (.int .i32 1)
    have hsz : (w.setCell ⟨mb, 3, none⟩ (.int .i32 1)).heap.size = w.heap.size := by simp [World.setCell]
    have hlt := lt_of_heap hb
    have hwk := work_any mb ib p ss n0 n k m s W0 (w.setCell ⟨mb, 3, none⟩ (.int .i32 1)) hP.meth hP.lk (h.info.keep hst (by simp; omega)) hw0 hP.len hP.lt hP.ok hP.look h0 h1 (heap_setCell hb 3 _) (h.tz.upd hst (by simp; exact fun e => hmt e.symm))
    rw [hsz] at hwk
    refine (do_first mb w c2 c3 (froz_of hb 3) (fun w1 => ∃ lb kv F, (∃ bk gk, MapIn w1 w.heap.size mb lb ib (kindsL m).length k 0 1 m kv (seenF s) F bk gk) ∧ (∀ pc q, F pc q = true ↔ LiveR m.code (fun i => seenF s i = true) pc q) ∧ InfoK W0 w1 ib p ss n0 (n + m.code.length) ∧ Upd [mb, ib] (w.setCell ⟨mb, 3, none⟩ (.int .i32 1)) w1) (hwk.mono (fun e w1 ⟨h1, lb, kv, F, bk, gk, h2, h3, h4, h5⟩ => ⟨h1, lb, kv, F, ⟨bk, gk, h2⟩, h3, h4, h5⟩)) ?_).mono ?_
    · rintro w1 ⟨lb, kv, F, ⟨bk, gk, h2⟩, _⟩
      have hb2 := h2.box
      exact ⟨by rw [cell_of hb2]; rfl, by rw [cell_of hb2]; rfl, froz_of hb2 2, froz_of hb2 3⟩
    · rintro e w' ⟨h1, w1, ⟨lb, kv, F, ⟨bk, gk, h2⟩, h3, h4, h5⟩, rfl⟩
      have hc := hP.ok.code1 k hP.lt
      rw [← hP.meth] at hc
      have hs2 := ((Upd.refl [mb] w1).drew.setCell (p := ⟨mb, 2, none⟩) (.inl (by simp)) (.int .u32 1)).setCell (p := ⟨mb, 3, none⟩) (.inl (by simp)) (.int .i32 0)
      have hbn := heap_setCell (heap_setCell (w := w1.drew) h2.box 2 (.int .u32 1)) 3 (.int .i32 0)
      refine ⟨h1, n + m.code.length, by omega, by omega, ⟨w.heap.size, lb, kv, F, bk, gk, h2.reb hs2 hbn (lt_of_heap hb) (fun e => hmt e.symm), h3, h4.keep hs2 (by simp; omega)⟩, ?_⟩
      exact ((hst.mono (T := [mb, ib]) (by simp)).trans h5).trans (hs2.mono (T := [mb, ib]) (by simp))
  · have c2 : w.cell? ⟨mb, 2, none⟩ = some (.int .u32 1) := by rw [cell_of h.inn.box]; rfl
    refine (do_done ⟨mb, 2, none⟩ 1 (by decide) _ w c2).mono ?_
    rintro e w' ⟨h1, rfl⟩
    exact ⟨h1, n, by omega, by omega, ⟨B, lb, kv, F, bk, gk, h⟩, Upd.refl _ _⟩

set_option maxRecDepth 100000 in
set_option maxHeartbeats 2000000 in
theorem at_any2 (W0 : World) (mb ib : Nat) (p : Prg) (ss : List Lk) (n0 n : Int) (k : Nat) (m : Meth) (s : Lk) (pc : Int) (w : World) (hP : LvP p ss k m s) (hw0 : W0.heap.size ≤ mb) (h0 : 0 ≤ n) (h1 : n ≤ 900000000)
    (h : LvNew W0 w mb ib p ss n0 n k ∨ ∃ B lb kv F bk gk, LvD W0 w mb ib p ss n0 n k m s B lb kv F bk gk) :
    Calls Tryz.prog 68 #[.pointer (some ⟨mb, 0, none⟩), .int .i64 pc] w fun e w' => ∃ n' B lb kv F bk gk, e = .returned (atP m.code.length (seenF s) bk pc) ∧ n ≤ n' ∧ n' ≤ n + 120 ∧ LvD W0 w' mb ib p ss n0 n' k m s B lb kv F bk gk ∧ Upd [mb, ib] w w' := by
  have HON := Lib.hid (once_any W0 mb ib p ss n0 n k m s w hP hw0 h0 h1 h)
  have hc := hP.ok.code1 k hP.lt
  rw [← hP.meth] at hc
  clear h hP
  go_enter Tryz.func68, Tryz.ntmps68
  go_wp2_with fail
  refine HON.out.mono ?_
  rintro e w1 ⟨rfl, n', hn1, hn2, ⟨B, lb, kv, F, bk, gk, hD⟩, hu⟩
  have HD := Lib.hid hD
  have HU := Lib.hid hu
  have m9 : w1.cell? ⟨mb, 9, none⟩ = some (.slice (some ⟨lb, 0, none⟩) m.code.length m.code.length) := by rw [cell_of hD.inn.box]; rfl
  clear hD hu HON
  by_cases hpc : 0 ≤ pc ∧ pc < (m.code.length : Int)
  · obtain ⟨q, rfl⟩ := Int.eq_ofNat_of_zero_le hpc.1
    have hq : q < m.code.length := by omega
    have hcq := HD.out.inn.sets.cell q hq
    have HV : Hid (atP m.code.length (seenF s) bk (q : Int) = ptrV (seenF s) bk q) := by
      show _ = _
      unfold atP
      rw [if_pos hpc, Int.toNat_natCast]
    have hpt : ∃ a, ptrV (seenF s) bk q = .pointer a := by
      unfold ptrV
      split
      · exact ⟨_, rfl⟩
      · exact ⟨_, rfl⟩
    obtain ⟨a, ha⟩ := hpt
    rw [ha] at hcq
    have HA := Lib.hid ha
    clear ha hpc
    go_wp2_with fail
    go_ret
    exact ⟨n', B, lb, kv, F, bk, gk, by rw [HV.out, HA.out]; rfl, hn1, hn2, HD.out, HU.out⟩
  · have HV : Hid (atP m.code.length (seenF s) bk pc = .pointer none) := by
      show _ = _
      unfold atP
      rw [if_neg hpc]
    by_cases hl : pc < 0
    · clear hpc
      go_wp2_with fail
      go_ret
      exact ⟨n', B, lb, kv, F, bk, gk, by rw [HV.out]; rfl, hn1, hn2, HD.out, HU.out⟩
    · have hge : (m.code.length : Int) ≤ pc := by omega
      clear hpc
      go_wp2_with fail
      go_ret
      exact ⟨n', B, lb, kv, F, bk, gk, by rw [HV.out]; rfl, hn1, hn2, HD.out, HU.out⟩
end Go.Proofs.YtpmfbhoochogoaaGreatDoor

/-! live.Map.Locals, Has, Behind. -/
/-! live.Map.Locals, Has, Behind. -/
namespace Go.Proofs.YtpmfbhoochogoaaGreatDoor
open Go.RowKit

theorem blist_is (ws : List Nat) (n : Nat) (f : Nat → Bool) (h : ∀ p, bhas ws p = f p) (hf : ∀ p, f p = true → p < n) (hw : ws.length = (n + 63) / 64) : blist ws = (List.range n).filter f := by
  have e : bhas ws = f := funext h
  unfold blist bupto
  rw [e]
  obtain ⟨d, hd⟩ : ∃ d, 64 * ws.length = n + d := ⟨64 * ws.length - n, by omega⟩
  rw [hd]
  clear hd
  induction d with
  | zero => rfl
  | succ d ih =>
    rw [← Nat.add_assoc, List.range_succ, List.filter_append, ih]
    have : f (n + d) = false := by
      cases hx : f (n + d) with
      | false => rfl
      | true => have := hf _ hx; omega
    simp [this]

theorem OwnI.base {w : World} {B B' : Nat} {e : TypeId} {v : Value} {xs : List Int} (h : OwnI w B e v xs) (hB : B' ≤ B) : OwnI w B' e v xs :=
  ⟨h.1, h.2.imp (fun x => x) (fun ⟨g, c, cur, h1, h2, h3⟩ => ⟨g, c, cur, h1, by omega, h3⟩)⟩

/-- What is asked for. -/
noncomputable def liveG (xs : List Ins) (seen : Nat → Bool) : Nat → Nat → Bool := fun pc k => @decide (LiveR xs (fun i => seen i = true) pc k) (Classical.propDecidable _)
theorem liveG_iff (xs : List Ins) (seen : Nat → Bool) (pc k : Nat) : liveG xs seen pc k = true ↔ LiveR xs (fun i => seen i = true) pc k := by
  unfold liveG
  exact @decide_eq_true_iff _ (Classical.propDecidable _)
theorem LvD.is {W0 w : World} {mb ib : Nat} {p : Prg} {ss : List Lk} {n0 n : Int} {k : Nat} {m : Meth} {s : Lk} {B lb : Nat} {kv : Value} {F : Nat → Nat → Bool} {bk gk : Nat → Nat} (h : LvD W0 w mb ib p ss n0 n k m s B lb kv F bk gk) : F = liveG m.code (seenF s) := by
  funext pc q
  have h1 := h.live pc q
  rw [← liveG_iff] at h1
  exact Bool.eq_iff_iff.2 h1

/-- The live ones ahead of a place. -/
noncomputable def locG (m : Meth) (s : Lk) (pc : Int) : List Int := if 0 ≤ pc ∧ pc < (m.code.length : Int) then ints ((List.range (kindsL m).length).filter (liveG m.code (seenF s) pc.toNat)) else []
theorem locG_unseen {W0 w : World} {mb ib : Nat} {p : Prg} {ss : List Lk} {n0 n : Int} {k : Nat} {m : Meth} {s : Lk} {B lb : Nat} {kv : Value} {F : Nat → Nat → Bool} {bk gk : Nat → Nat} (h : LvD W0 w mb ib p ss n0 n k m s B lb kv F bk gk) {pc : Int} (hs : ¬ (0 ≤ pc ∧ pc < (m.code.length : Int) ∧ seenF s pc.toNat = true)) : locG m s pc = [] := by
  unfold locG
  split
  · rename_i hp
    have h1 : seenF s pc.toNat = false := by simpa using fun e => hs ⟨hp.1, hp.2, e⟩
    have h2 := h.inn.sets.zero _ h1
    rw [← h.is]
    have e : (List.range (kindsL m).length).filter (F pc.toNat) = [] := by
      rw [List.filter_eq_nil_iff]
      intro a _
      rw [h2]
      simp
    rw [e]
    rfl
  · rfl

set_option maxRecDepth 100000 in
set_option maxHeartbeats 2000000 in
theorem locals_any (W0 : World) (mb ib : Nat) (p : Prg) (ss : List Lk) (n0 n : Int) (k : Nat) (m : Meth) (s : Lk) (pc : Int) (w : World) (hP : LvP p ss k m s) (hw0 : W0.heap.size ≤ mb) (h0 : 0 ≤ n) (h1 : n ≤ 900000000)
    (h : LvNew W0 w mb ib p ss n0 n k ∨ ∃ B lb kv F bk gk, LvD W0 w mb ib p ss n0 n k m s B lb kv F bk gk) :
    Calls Tryz.prog 36 #[.pointer (some ⟨mb, 0, none⟩), .int .i64 pc] w fun e w' => ∃ n' w1 u, n ≤ n' ∧ n' ≤ n + 120 ∧ (∃ B lb kv F bk gk, LvD W0 w1 mb ib p ss n0 n' k m s B lb kv F bk gk) ∧ Upd [mb, ib] w w1 ∧ e = .returned u ∧ OwnI w' w1.heap.size 3 u (locG m s pc) ∧ Upd [] w1 w' := by
  have HAT := Lib.hid (at_any2 W0 mb ib p ss n0 n k m s pc w hP hw0 h0 h1 h)
  clear h
  go_enter Tryz.func36, Tryz.ntmps36
  go_wp2_with fail
  refine HAT.out.mono ?_
  rintro e w1 ⟨n', B, lb, kv, F, bk, gk, rfl, hn1, hn2, hD, hu⟩
  have HU := Lib.hid hu
  have HD := Lib.hid hD
  clear hu hD HAT
  by_cases hs : 0 ≤ pc ∧ pc < (m.code.length : Int) ∧ seenF s pc.toNat = true
  · obtain ⟨q, rfl⟩ := Int.eq_ofNat_of_zero_le hs.1
    have hq : q < m.code.length := by omega
    have hs2 := hs.2.2
    rw [Int.toNat_natCast] at hs2
    have hv : atP m.code.length (seenF s) bk (q : Int) = .pointer (some ⟨bk q, 0, none⟩) := by
      unfold atP ptrV
      rw [if_pos ⟨hs.1, hs.2.1⟩, Int.toNat_natCast, if_pos hs2]
    rw [hv]
    obtain ⟨ws, hw1, hw2⟩ := HD.out.inn.sets.set q hq hs2
    have hbl := blist_is ws (kindsL m).length (F q) hw2 (fun x hx => hw1.2.2.2.2.2 x (by rw [hw2]; exact hx)) hw1.2.2.2.1
    have hnk := HD.out.inn.nk_le
    have HLI := Lib.hid (list_any (bk q) (gk q) (kindsL m).length ws w1 hw1 HD.out.inn.tz (by omega))
    have HLO : Hid (ints (blist ws) = locG m s (q : Int)) := by
      show _ = _
      rw [hbl, HD.out.is]
      unfold locG
      rw [if_pos ⟨by omega, by omega⟩, Int.toNat_natCast]
    clear hv hw1 hw2 hbl hs hs2
    go_wp2_with fail
    refine HLI.out.mono ?_
    rintro e w2 ⟨u, rfl, hun, hu2⟩
    rw [HLO.out] at hun
    have HUN := Lib.hid hun
    have HU2 := Lib.hid hu2
    clear hun hu2 HLI
    obtain ⟨up, uc, rfl⟩ := HUN.out.shape
    go_wp2_with fail
    go_ret
    exact ⟨n', w1, _, hn1, hn2, ⟨B, lb, kv, F, bk, gk, HD.out⟩, HU.out, rfl, HUN.out, HU2.out⟩
  · have hv : atP m.code.length (seenF s) bk pc = .pointer none := by
      unfold atP ptrV
      split
      · rename_i hp
        rw [if_neg (fun e => hs ⟨hp.1, hp.2, e⟩)]
      · rfl
    rw [hv]
    have HLO := Lib.hid (locG_unseen HD.out hs)
    clear hv hs
    go_wp2_with fail
    go_ret
    exact ⟨n', w1, _, hn1, hn2, ⟨B, lb, kv, F, bk, gk, HD.out⟩, HU.out, rfl, by rw [HLO.out]; exact OwnI.nil _ _ _, Upd.refl _ _⟩

/-- Is a local live ahead of a place? -/
noncomputable def hasG (m : Meth) (s : Lk) (pc j : Int) : Bool := decide (0 ≤ pc ∧ pc < (m.code.length : Int) ∧ 0 ≤ j) && liveG m.code (seenF s) pc.toNat j.toNat

set_option maxRecDepth 100000 in
set_option maxHeartbeats 2000000 in
theorem lhas_any (W0 : World) (mb ib : Nat) (p : Prg) (ss : List Lk) (n0 n : Int) (k : Nat) (m : Meth) (s : Lk) (pc j : Int) (w : World) (hP : LvP p ss k m s) (hw0 : W0.heap.size ≤ mb) (h0 : 0 ≤ n) (h1 : n ≤ 900000000)
    (h : LvNew W0 w mb ib p ss n0 n k ∨ ∃ B lb kv F bk gk, LvD W0 w mb ib p ss n0 n k m s B lb kv F bk gk) :
    Calls Tryz.prog 39 #[.pointer (some ⟨mb, 0, none⟩), .int .i64 pc, .int .i64 j] w fun e w' => ∃ n', n ≤ n' ∧ n' ≤ n + 120 ∧ (∃ B lb kv F bk gk, LvD W0 w' mb ib p ss n0 n' k m s B lb kv F bk gk) ∧ Upd [mb, ib] w w' ∧ e = .returned (.bool (hasG m s pc j)) := by
  have HAT := Lib.hid (at_any2 W0 mb ib p ss n0 n k m s pc w hP hw0 h0 h1 h)
  clear h
  go_enter Tryz.func39, Tryz.ntmps39
  go_wp2_with fail
  refine HAT.out.mono ?_
  rintro e w1 ⟨n', B, lb, kv, F, bk, gk, rfl, hn1, hn2, hD, hu⟩
  have HU := Lib.hid hu
  have HD := Lib.hid hD
  clear hu hD HAT
  by_cases hs : 0 ≤ pc ∧ pc < (m.code.length : Int) ∧ seenF s pc.toNat = true
  · obtain ⟨q, rfl⟩ := Int.eq_ofNat_of_zero_le hs.1
    have hq : q < m.code.length := by omega
    have hs2 := hs.2.2
    rw [Int.toNat_natCast] at hs2
    have hv : atP m.code.length (seenF s) bk (q : Int) = .pointer (some ⟨bk q, 0, none⟩) := by
      unfold atP ptrV
      rw [if_pos ⟨hs.1, hs.2.1⟩, Int.toNat_natCast, if_pos hs2]
    rw [hv]
    obtain ⟨ws, hw1, hw2⟩ := HD.out.inn.sets.set q hq hs2
    have HHA : Hid (Calls Tryz.prog 70 #[.pointer (some ⟨bk q, 0, none⟩), .int .i64 j] w1 fun e w' => e = .returned (.bool (hasG m s (q : Int) j)) ∧ w1 = w') := by
      show Calls _ _ _ _ _
      have his := HD.out.is
      by_cases hj : j < 0 ∨ ((kindsL m).length : Int) ≤ j
      · have e : hasG m s (q : Int) j = false := by
          unfold hasG
          by_cases hj0 : 0 ≤ j
          · rw [Int.toNat_natCast, ← his, ← hw2]
            have : bhas ws j.toNat = false := by
              cases hx : bhas ws j.toNat with
              | false => rfl
              | true => have := hw1.2.2.2.2.2 _ hx; omega
            rw [this, Bool.and_false]
          · rw [decide_eq_false (by omega), Bool.false_and]
        rw [e]
        exact has_out (bk q) (gk q) (kindsL m).length j ws w1 hw1 hj
      · obtain ⟨x, rfl⟩ := Int.eq_ofNat_of_zero_le (show 0 ≤ j by omega)
        have e : hasG m s (q : Int) (x : Int) = bhas ws x := by
          unfold hasG
          rw [decide_eq_true ⟨by omega, by omega, by omega⟩, Bool.true_and, Int.toNat_natCast, Int.toNat_natCast, ← his, hw2]
        rw [e]
        exact has_in (bk q) (gk q) (kindsL m).length x ws w1 hw1 (by omega)
    clear hv hw1 hw2 hs hs2
    go_wp2_with fail
    refine HHA.out.mono ?_
    rintro e w2 ⟨rfl, rfl⟩
    go_wp2_with fail
    go_ret
    exact ⟨n', hn1, hn2, ⟨B, lb, kv, F, bk, gk, HD.out⟩, HU.out, rfl⟩
  · have hv : atP m.code.length (seenF s) bk pc = .pointer none := by
      unfold atP ptrV
      split
      · rename_i hp
        rw [if_neg (fun e => hs ⟨hp.1, hp.2, e⟩)]
      · rfl
    rw [hv]
    have HLO : Hid (hasG m s pc j = false) := by
      show _ = _
      unfold hasG
      by_cases hp : 0 ≤ pc ∧ pc < (m.code.length : Int) ∧ 0 ≤ j
      · have h9 : seenF s pc.toNat = false := by simpa using fun e => hs ⟨hp.1, hp.2.1, e⟩
        rw [← HD.out.is, HD.out.inn.sets.zero _ h9, Bool.and_false]
      · rw [decide_eq_false hp, Bool.false_and]
    clear hv hs
    go_wp2_with fail
    go_ret
    exact ⟨n', hn1, hn2, ⟨B, lb, kv, F, bk, gk, HD.out⟩, HU.out, by rw [HLO.out]; rfl⟩

/-- The live ones behind a place that is reached. -/
noncomputable def behG (m : Meth) (s : Lk) (pc : Int) : List Int := if 0 ≤ pc ∧ pc < (m.code.length : Int) ∧ seenF s pc.toNat = true then ints ((List.range (kindsL m).length).filter (behF m.code (seenF s) (liveG m.code (seenF s)) pc.toNat)) else []

set_option maxRecDepth 100000 in
set_option maxHeartbeats 2000000 in
theorem lbehind_any (W0 : World) (mb ib : Nat) (p : Prg) (ss : List Lk) (n0 n : Int) (k : Nat) (m : Meth) (s : Lk) (pc : Int) (w : World) (hP : LvP p ss k m s) (hw0 : W0.heap.size ≤ mb) (h0 : 0 ≤ n) (h1 : n ≤ 900000000)
    (h : LvNew W0 w mb ib p ss n0 n k ∨ ∃ B lb kv F bk gk, LvD W0 w mb ib p ss n0 n k m s B lb kv F bk gk) :
    Calls Tryz.prog 47 #[.pointer (some ⟨mb, 0, none⟩), .int .i64 pc] w fun e w' => ∃ n' w1 u, n ≤ n' ∧ n' ≤ n + 120 ∧ (∃ B lb kv F bk gk, LvD W0 w1 mb ib p ss n0 n' k m s B lb kv F bk gk) ∧ Upd [mb, ib] w w1 ∧ e = .returned u ∧ OwnI w' w1.heap.size 3 u (behG m s pc) ∧ Upd [] w1 w' := by
  have HAT := Lib.hid (at_any2 W0 mb ib p ss n0 n k m s pc w hP hw0 h0 h1 h)
  clear h
  go_enter Tryz.func47, Tryz.ntmps47
  go_wp2_with fail
  refine HAT.out.mono ?_
  rintro e w1 ⟨n', B, lb, kv, F, bk, gk, rfl, hn1, hn2, hD, hu⟩
  have HU := Lib.hid hu
  have HD := Lib.hid hD
  clear hu hD HAT
  by_cases hs : 0 ≤ pc ∧ pc < (m.code.length : Int) ∧ seenF s pc.toNat = true
  · obtain ⟨q, rfl⟩ := Int.eq_ofNat_of_zero_le hs.1
    have hq : q < m.code.length := by omega
    have hs2 := hs.2.2
    rw [Int.toNat_natCast] at hs2
    have hv : atP m.code.length (seenF s) bk (q : Int) = .pointer (some ⟨bk q, 0, none⟩) := by
      unfold atP ptrV
      rw [if_pos ⟨hs.1, hs.2.1⟩, Int.toNat_natCast, if_pos hs2]
    rw [hv]
    have HBH := Lib.hid (behind_any B mb lb ib (kindsL m).length k 1 0 m kv (seenF s) F bk gk (q : Int) w1 HD.out.inn)
    have hnk := HD.out.inn.nk_le
    have HSQ := Lib.hid hs
    clear hv hs hs2
    go_wp2_with fail
    refine HBH.out.mono ?_
    rintro e w2 ⟨b, g, ws, rfl, hset, hget, hb, hg, hu2⟩
    have hbl := blist_is ws (kindsL m).length (behF m.code (seenF s) F q) hget (fun x hx => hset.2.2.2.2.2 x (by rw [hget]; exact hx)) hset.2.2.2.1
    have HLI := Lib.hid (list_any b g (kindsL m).length ws w2 hset (HD.out.inn.tz.upd hu2 (by simp)) (by omega))
    have HU2 := Lib.hid hu2
    have HBL := Lib.hid hbl
    clear hset hget hb hg hu2 hbl HBH
    go_wp2_with fail
    refine HLI.out.mono ?_
    rintro e w3 ⟨u, rfl, hun, hu3⟩
    obtain ⟨up, uc, rfl⟩ := hun.shape
    have HUN := Lib.hid hun
    have HU3 := Lib.hid hu3
    clear hun hu3 HLI
    go_wp2_with fail
    go_ret
    refine ⟨n', w1, _, hn1, hn2, ⟨B, lb, kv, F, bk, gk, HD.out⟩, HU.out, rfl, ?_, HU2.out.trans HU3.out⟩
    have h9 : behG m s (q : Int) = ints (blist ws) := by
      unfold behG
      rw [if_pos HSQ.out, HBL.out, HD.out.is, Int.toNat_natCast]
    rw [h9]
    exact HUN.out.base HU2.out.size
  · have hv : atP m.code.length (seenF s) bk pc = .pointer none := by
      unfold atP ptrV
      split
      · rename_i hp
        rw [if_neg (fun e => hs ⟨hp.1, hp.2, e⟩)]
      · rfl
    rw [hv]
    have HLO : Hid (behG m s pc = []) := by
      show _ = _
      unfold behG
      rw [if_neg hs]
    clear hv hs
    go_wp2_with fail
    go_ret
    exact ⟨n', w1, _, hn1, hn2, ⟨B, lb, kv, F, bk, gk, HD.out⟩, HU.out, rfl, by rw [HLO.out]; exact OwnI.nil _ _ _, Upd.refl _ _⟩
end Go.Proofs.YtpmfbhoochogoaaGreatDoor
