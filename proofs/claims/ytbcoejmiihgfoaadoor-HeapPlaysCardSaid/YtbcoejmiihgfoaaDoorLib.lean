/- Plain lemmas and the frame relation 'Upd' that the walks use. No program in sight but the model's worlds. -/
import Derived.WalkKit
import Derived.WalkSpells
import Derived.WalkLawsBesides
import Derived.Lib.Hide
import Derived.Laws.CopyOwn
namespace Go.Proofs.YtbcoejmiihgfoaaDoor
open Go.RowKit

/-- All blocks that were there, but those of S, are as they were; the streams are as they were. -/
structure Upd (S : List Nat) (w w' : World) : Prop where
 os : w'.os = w.os
 tape : w'.tape = w.tape
 output : w'.output = w.output
 size : w.heap.size ≤ w'.heap.size
 block : ∀ k, k < w.heap.size → k ∉ S → w'.heap[k]? = w.heap[k]?

theorem Upd.refl (S : List Nat) (w : World) : Upd S w w := ⟨rfl, rfl, rfl, Nat.le_refl _, fun _ _ _ => rfl⟩
theorem Upd.trans {S : List Nat} {a b c : World} (h : Upd S a b) (k : Upd S b c) : Upd S a c :=
 ⟨k.os.trans h.os, k.tape.trans h.tape, k.output.trans h.output, Nat.le_trans h.size k.size, fun i hi hs => (k.block i (Nat.lt_of_lt_of_le hi h.size) hs).trans (h.block i hi hs)⟩
/-- Two steps; the second's set may name blocks that were not there at the first. -/
theorem Upd.trans' {S T : List Nat} {a b c : World} (h : Upd S a b) (k : Upd T b c) (hT : ∀ i ∈ T, i < a.heap.size → i ∈ S) : Upd S a c :=
 ⟨k.os.trans h.os, k.tape.trans h.tape, k.output.trans h.output, Nat.le_trans h.size k.size, fun i hi hs => (k.block i (Nat.lt_of_lt_of_le hi h.size) (fun ht => hs (hT i ht hi))).trans (h.block i hi hs)⟩
theorem Upd.mono {S T : List Nat} {a b : World} (h : Upd S a b) (hST : ∀ i ∈ S, i < a.heap.size → i ∈ T) : Upd T a b :=
 ⟨h.os, h.tape, h.output, h.size, fun i hi ht => h.block i hi (fun hs => ht (hST i hs hi))⟩
theorem Upd.drew {S : List Nat} {a w : World} (h : Upd S a w) : Upd S a w.drew := ⟨h.os, h.tape, h.output, h.size, h.block⟩
theorem Upd.drewN {S : List Nat} {a w : World} (h : Upd S a w) (n : Nat) : Upd S a (w.drewN n) := ⟨h.os, h.tape, h.output, h.size, h.block⟩
theorem Upd.alloc {S : List Nat} {a w : World} (h : Upd S a w) (o : Obj) : Upd S a (w.alloc o) :=
 h.trans ⟨rfl, rfl, rfl, by simp, fun k hk _ => Below.heap_alloc _ _ _ hk⟩
theorem Upd.setCell {S : List Nat} {a w : World} (h : Upd S a w) {p : Addr} (hp : p.block ∈ S ∨ a.heap.size ≤ p.block) (u : Value) : Upd S a (w.setCell p u) :=
 ⟨h.os, h.tape, h.output, by simpa [World.setCell] using h.size, fun k hk hs => by
  rw [Below.heap_setCell _ _ _ _ (by rintro rfl; rcases hp with hp | hp; exact hs hp; omega)]; exact h.block k hk hs⟩
theorem Upd.grown {S : List Nat} {a w w' : World} {row : Option Nat} (h : Upd S a w) (hg : w.grownBy w' row) (hr : ∀ k, row = some k → k ∈ S ∨ a.heap.size ≤ k) : Upd S a w' :=
 ⟨hg.os.trans h.os, hg.tape.trans h.tape, hg.output.trans h.output, Nat.le_trans h.size hg.size, fun k hk hs => by
  rw [hg.block k (Nat.lt_of_lt_of_le hk h.size) (fun e => by rcases hr k e.symm with h1 | h1; exact hs h1; omega)]; exact h.block k hk hs⟩
theorem Upd.below {w w' : World} (h : Upd [] w w') : Below w.heap.size w w' := ⟨h.os, h.tape, h.output, h.size, fun k hk => h.block k hk (by simp)⟩
theorem Upd.of_below {w w' : World} (h : Below w.heap.size w w') : Upd [] w w' := ⟨h.os, h.tape, h.output, h.size, fun k hk _ => h.block k hk⟩
theorem Upd.heap {S : List Nat} {w w' : World} (h : Upd S w w') {k : Nat} {o : Obj} (hk : w.heap[k]? = some o) (hs : k ∉ S) : w'.heap[k]? = some o := by
 rw [h.block k (Array.getElem?_eq_some_iff.1 hk).1 hs]; exact hk
theorem Upd.cell {S : List Nat} {w w' : World} (h : Upd S w w') {p : Addr} {v : Value} (hp : w.cell? p = some v) (hs : p.block ∉ S) : w'.cell? p = some v := by
 rw [World.cell?_of_block (h.block p.block (World.block_lt_of_cell? w p hp) hs)]; exact hp

/-- To stop a walk at an operation: '(at_builtin; refine stop_here ?_)', then 'refine Hid.mk ?_'. -/
theorem stop_here {p : Prop} (h : Hid p) : p := h
theorem Hid.mk {p : Prop} (h : p) : Hid p := h

theorem lt_of_heap {w : World} {k : Nat} {o : Obj} (h : w.heap[k]? = some o) : k < w.heap.size := (Array.getElem?_eq_some_iff.1 h).1

/-- A block known whole: its cells. -/
theorem cell_of {w : World} {b : Nat} {c : Array Value} {t : TypeId} {f : Nat × Nat} (h : w.heap[b]? = some (.cells c t f)) (i : Nat) : w.cell? ⟨b, i, none⟩ = c[i]? := by
 simp [World.cell?, h]
theorem froz_of {w : World} {b : Nat} {c : Array Value} {t : TypeId} (h : w.heap[b]? = some (.cells c t)) (i : Nat) : w.frozen? ⟨b, i, none⟩ = false := by
 simp [World.frozen?, h]
theorem heap_setCell {w : World} {b : Nat} {c : Array Value} {t : TypeId} {f : Nat × Nat} (h : w.heap[b]? = some (.cells c t f)) (i : Nat) (v : Value) :
  (w.setCell ⟨b, i, none⟩ v).heap[b]? = some (.cells (c.setIfInBounds i v) t f) := by
 simp [World.setCell, Array.getElem?_modify, h]

/-- Integers as cells. -/
def icells (xs : List Int) : Array Value := (xs.map (Value.int .i64)).toArray
theorem icells_get (xs : List Int) (i : Nat) (h : i < xs.length) : (icells xs)[i]? = some (.int .i64 (xs.getD i 0)) := by
 simp [icells, h]
theorem icells_set (xs : List Int) (i : Nat) (v : Int) : (icells xs).setIfInBounds i (.int .i64 v) = icells (xs.set i v) := by
 simp [icells, List.map_set]
theorem icells_size (xs : List Int) : (icells xs).size = xs.length := by simp [icells]

theorem or_shift (a n : Int) (h0 : 0 ≤ a) (h1 : a < 1048576) (h2 : 0 ≤ n) (h3 : n < 16777216) : bits BinOp.or IntKind.i64 (a * 16777216) n = a * 16777216 + n := by
 obtain ⟨x, rfl⟩ := Int.eq_ofNat_of_zero_le h0
 obtain ⟨y, rfl⟩ := Int.eq_ofNat_of_zero_le h2
 have hx : x < 1048576 := by omega
 have hy : y < 16777216 := by omega
 have e1 : ((x : Int) * 16777216) = ((x * 16777216 : Nat) : Int) := by omega
 rw [e1]
 have e2 : (BitVec.ofInt 64 ((x * 16777216 : Nat) : Int)).toNat = x * 16777216 := by
  rw [BitVec.ofInt_natCast, BitVec.toNat_ofNat]; omega
 have e3 : (BitVec.ofInt 64 ((y : Nat) : Int)).toNat = y := by
  rw [BitVec.ofInt_natCast, BitVec.toNat_ofNat]; omega
 have e4 : (bits BinOp.or IntKind.i64 ((x * 16777216 : Nat) : Int) (y : Int)) = IntKind.i64.wrap (((BitVec.ofInt 64 ((x * 16777216 : Nat) : Int)) ||| (BitVec.ofInt 64 (y : Int))).toNat : Int) := rfl
 rw [e4, BitVec.toNat_or, e2, e3, nat_join 24 _ _ (by omega) (by omega)]
 rw [IntKind.wrap_i64]
 omega

theorem and_mask24 (a : Int) : bits BinOp.and IntKind.i64 a 16777215 = a % 16777216 := by
 have e4 : bits BinOp.and IntKind.i64 a 16777215 = IntKind.i64.wrap (((BitVec.ofInt 64 a) &&& (BitVec.ofInt 64 16777215)).toNat : Int) := rfl
 have e5 : (BitVec.ofInt 64 16777215).toNat = 16777215 := by decide
 rw [e4, BitVec.toNat_and, e5, BitVec.toNat_ofInt]
 have e6 : ∀ x : Nat, x &&& 16777215 = x % 16777216 := fun x => Nat.and_two_pow_sub_one_eq_mod x 24
 rw [e6, IntKind.wrap_i64]
 have e7 : ((2 ^ 64 : Nat) : Int) = 18446744073709551616 := by decide
 rw [e7]
 omega

theorem Upd.setRow {S : List Nat} {a w : World} (h : Upd S a w) {g : Nat} (hg : g ∈ S ∨ a.heap.size ≤ g) (cs : Array Value) : Upd S a (w.setRow g cs) :=
 ⟨h.os, h.tape, h.output, by simpa [World.setRow] using h.size, fun k hk hs => by
  rw [setRow_other w g k cs (by rintro rfl; rcases hg with hg | hg; exact hs hg; omega)]; exact h.block k hk hs⟩

/-- The built-in copy into a row known whole: what is known behind it: that row, and that no other block has turned. -/
theorem wpList_copy_upd {P : Program} {w : World} {ops : Array Oper} {rest : List Oper} {o : Oper} {a : Act} {Q : Exit → Act → World → Prop} (hgd : o.guard = none) (d s : Operand) (dT sT : TypeId)
  (ho : o.op = .call { callee := .builtin .copy, args := #[d, s], argTypes := #[dT, sT] }) (elem : TypeId) (hu : P.underlying dT = some (.slice elem)) (hsz : (P.info? elem).map (·.size) = some 1)
  (dp sp : Option Addr) (dLen dCap sLen sCap : Nat) (hd : a.eval d = .slice dp dLen dCap) (hs : a.eval s = .slice sp sLen sCap)
  (g off : Nat) (cur : List Value) (t : TypeId) (hg : w.heap[g]? = some (.cells cur.toArray t (0, 0))) (cs : List Value) (hn : cs.length = Nat.min sLen dLen)
  (hpos : 0 < cs.length → dp = some ⟨g, off, none⟩ ∧ ∃ ad, sp = some ad ∧ ∀ j v, cs[j]? = some v → w.cell? (ad.add j) = some v)
  (hfit : off + cs.length ≤ cur.length) (h1 : ∀ v ∈ cs, v.oneCell' = true)
  (h : ∀ w', Hid (w'.heap[g]? = some (.cells (splice cur off cs).toArray t (0, 0))) → Hid (Upd [g] w w') → Hid (w'.heap.size = w.heap.size) → wpList P ops Q rest (a.put o.dst (goInt cs.length)) w') :
  wpList P ops Q (o :: rest) a w := by
 by_cases h0 : cs.length = 0
 ·obtain rfl : cs = [] := List.eq_nil_of_length_eq_zero h0
  refine wpList_copy_nothing hgd d s dT sT ho elem hu hsz dp sp dLen dCap sLen sCap hd hs (by simpa using hn.symm) ?_
  exact h w (show _ = _ by simpa [splice] using hg) (Upd.refl _ _) (show _ = _ from rfl)
 ·obtain ⟨rfl, ad, rfl, hsrc⟩ := hpos (by omega)
  refine wpList_copy_own hgd d s dT sT ho elem hu hsz g off dLen dCap ad sLen sCap hd hs cur.toArray t hg cs hn hsrc (by simpa using hfit) h1 ?_
  exact h _ (show _ = _ by simpa [splice] using setRow_heap w g _ _ t _ hg) ((Upd.refl _ _).setRow (by simp) _) (show _ = _ by simp [World.setRow])

theorem splice_map {α β : Type} (f : α → β) (L : List α) (o : Nat) (cs : List α) : splice (L.map f) o (cs.map f) = (splice L o cs).map f := by
 simp [splice, List.map_take, List.map_drop]

/-- 'clear(s)' over a row known whole. -/
theorem run_clear_row {P : Program} (w : World) (t e ty : TypeId) (z : Value) (ht : P.underlying t = some (.slice e)) (hv : ∀ w, (zeroValue e).run P w = .ok z w) (hz : z.cells = #[z]) (h1 : z.oneCell' = true) (g o n c : Nat) (hn : 0 < n)
  (cur : List Value) (tt : TypeId) (hg : w.heap[g]? = some (.cells cur.toArray tt (0, 0))) (hfit : o + n ≤ cur.length) :
  (Builtin.clear_ #[t] ty #[.slice (some ⟨g, o, none⟩) n c]).run P w = .ok (.tuple #[]) (w.setRow g (splice cur o (List.replicate n z)).toArray) := by
 have hzc : (Builtin.zeroCells z.cells n).toList = List.replicate n z := by
  rw [hz]
  simp [Builtin.zeroCells]
  apply List.ext_getElem
  ·simp
  ·intro i h1 h2
   simp [Nat.mod_one]
 have hst := run_storeCells_at P g o tt (List.replicate n z) 0 cur.toArray w hg (by simpa using hfit) (by intro v hv'; rw [List.eq_of_mem_replicate hv']; exact h1)
 obtain ⟨m, rfl⟩ : ∃ m, n = m + 1 := ⟨n - 1, by omega⟩
 simp only [Nat.add_zero] at hst
 have e1 : splice cur o (List.replicate (m + 1) z) = cur.take o ++ List.replicate (m + 1) z ++ cur.drop (o + (List.replicate (m + 1) z).length) := by simp [splice]
 rw [e1]
 simp [Builtin.clear_, run_underlying ht, hv, hzc, hst, Result.andThen]

theorem and_mask (a : Int) (k m : Nat) (hk : k ≤ 62) (hm : m + 1 = 2 ^ k) : bits BinOp.and IntKind.i64 a (m : Int) = a % ((2 ^ k : Nat) : Int) := by
 have hm62 : m + 1 ≤ 2 ^ 62 := by rw [hm]; exact Nat.pow_le_pow_right (by omega) hk
 have e4 : bits BinOp.and IntKind.i64 a (m : Int) = IntKind.i64.wrap (((BitVec.ofInt 64 a) &&& (BitVec.ofInt 64 (m : Int))).toNat : Int) := rfl
 have e5 : (BitVec.ofInt 64 (m : Int)).toNat = m := by rw [BitVec.ofInt_natCast, BitVec.toNat_ofNat]; omega
 rw [e4, BitVec.toNat_and, e5, BitVec.toNat_ofInt]
 have e6 : ∀ x : Nat, x &&& m = x % 2 ^ k := fun x => by
  have := Nat.and_two_pow_sub_one_eq_mod x k
  rwa [show 2 ^ k - 1 = m by omega] at this
 rw [e6, IntKind.wrap_i64]
 have hp : 0 < 2 ^ k := Nat.two_pow_pos k
 have hlt := Nat.mod_lt (a % ((2 ^ 64 : Nat) : Int)).toNat hp
 have h64 : 2 ^ k ∣ 2 ^ 64 := Nat.pow_dvd_pow 2 (by omega)
 have hnn : 0 ≤ a % ((2 ^ 64 : Nat) : Int) := Int.emod_nonneg _ (by simp)
 have key : ((((a % ((2 ^ 64 : Nat) : Int)).toNat % 2 ^ k : Nat)) : Int) = a % ((2 ^ k : Nat) : Int) := by
  rw [Int.natCast_emod, Int.toNat_of_nonneg hnn]
  exact Int.emod_emod_of_dvd _ (Int.natCast_dvd_natCast.2 h64)
 rw [← key]
 omega

theorem and_1023 (a : Int) : bits BinOp.and IntKind.i64 a 1023 = a % 1024 := and_mask a 10 1023 (by omega) (by decide)
theorem and_63 (a : Int) : bits BinOp.and IntKind.i64 a 63 = a % 64 := and_mask a 6 63 (by omega) (by decide)
theorem and_31 (a : Int) : bits BinOp.and IntKind.i64 a 31 = a % 32 := and_mask a 5 31 (by omega) (by decide)
theorem and_7 (a : Int) : bits BinOp.and IntKind.i64 a 7 = a % 8 := and_mask a 3 7 (by omega) (by decide)
theorem and_2047 (a : Int) : bits BinOp.and IntKind.i64 a 2047 = a % 2048 := and_mask a 11 2047 (by omega) (by decide)
theorem and_4095 (a : Int) : bits BinOp.and IntKind.i64 a 4095 = a % 4096 := and_mask a 12 4095 (by omega) (by decide)
theorem and_8191 (a : Int) : bits BinOp.and IntKind.i64 a 8191 = a % 8192 := and_mask a 13 8191 (by omega) (by decide)

end Go.Proofs.YtbcoejmiihgfoaaDoor
