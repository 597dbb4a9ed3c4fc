/- A row of integers of one's own; cuts of rows. -/
import Derived.Test.YtneeljhjfmcdoaaDoorSorted
import Derived.Test.YtneeljhjfmcdoaaDoorStep
import Derived.Test.YtneeljhjfmcdoaaDoorInts
import Derived.Deep.DeepCutAuto
import Derived.Deep.CutBlock
import Derived.Deep.QuietTactic
import Derived.BigQuiet
namespace Go.Proofs.YtneeljhjfmcdoaaDoor
open Go.RowKit

/-- A row of integers of one's own. -/
def OwnI (w : World) (base : Nat) (e : TypeId) (v : Value) (xs : List Int) : Prop := w.ownsRow base e 1 v xs.length (xs.map (Value.int .i64))

theorem OwnI.form {w : World} {base : Nat} {e : TypeId} {v : Value} {xs : List Int} (h : OwnI w base e v xs) : (v = .slice none 0 0 ∧ xs = []) ∨ ∃ g c, v = .slice (some ⟨g, 0, none⟩) xs.length c ∧ xs.length ≤ c ∧ base ≤ g ∧ g < w.heap.size ∧ ∀ i, i < xs.length → w.cell? ⟨g, i, none⟩ = some (.int .i64 (xs.getD i 0)) := by
  rcases h.2 with ⟨h1, h2⟩ | ⟨g, c, cur, h1, hb, hg, hc, _⟩
  · exact .inl ⟨h1, List.eq_nil_of_length_eq_zero h2⟩
  · refine .inr ⟨g, c, h1, hc, hb, lt_of_heap hg, fun i hi => ?_⟩
    have h3 := h.cells (g := g) (by rw [h1]; rfl) i (.int .i64 (xs.getD i 0)) (by
      rw [List.getElem?_map, List.getElem?_eq_getElem hi, List.getD_eq_getElem?_getD, List.getElem?_eq_getElem hi]; rfl)
    rwa [Addr.add_lit, Nat.zero_add] at h3
theorem OwnI.ints {w : World} {base : Nat} {e : TypeId} {v : Value} {xs : List Int} (h : OwnI w base e v xs) : ∃ b, IntsV w v b xs ∧ (xs = [] ∨ base ≤ b ∧ b < w.heap.size) := by
  rcases h.form with ⟨h1, h2⟩ | ⟨g, c, h1, h2, h3, h4, h5⟩
  · exact ⟨0, ⟨.inl ⟨h1, h2⟩, by rw [h2]; simp⟩, .inl h2⟩
  · exact ⟨g, ⟨.inr ⟨c, h1⟩, h5⟩, .inr ⟨h3, h4⟩⟩
theorem OwnI.upd {w w' : World} {base : Nat} {e : TypeId} {v : Value} {xs : List Int} {T : List Nat} (h : OwnI w base e v xs) (hu : Upd T w w') (hT : ∀ k, v.ownBlock = some k → k ∉ T) : OwnI w' base e v xs := row_upd h hu hT
theorem OwnI.nil (w : World) (base : Nat) (e : TypeId) : OwnI w base e (.slice none 0 0) [] := World.ownsRow_nil _ _ _ _

theorem cut_hi (w : World) (g len c q : Nat) (h : q ≤ c) : (Instr.slice 22 (.slice (some ⟨g, 0, none⟩) len c) none (some (.int .i64 (q : Int))) none).run Tryd.prog w = .ok (.slice (some ⟨g, 0, none⟩) q c) w := by
  have hsz : (sizeOf 3).run Tryd.prog w = .ok 1 w := by kernel_rfl
  have he : Tryd.prog.elem 22 = 3 := by kernel_rfl
  rw [run_slice_h w 22 _ _ _ (by rw [he]; exact Tryd.underlying22) .i64 (q : Int) (by omega) (by omega), he, hsz]
  simp [Result.andThen, sliced, Addr.add]
theorem cut_lo (w : World) (g len c q : Nat) (h : q ≤ len) : (Instr.slice 22 (.slice (some ⟨g, 0, none⟩) len c) (some (.int .i64 (q : Int))) none none).run Tryd.prog w = .ok (.slice (some ⟨g, if c = q then 0 else q, none⟩) (len - q) (c - q)) w := by
  have hsz : (sizeOf 3).run Tryd.prog w = .ok 1 w := by kernel_rfl
  have he : Tryd.prog.elem 22 = 3 := by kernel_rfl
  rw [run_slice_l w 22 _ _ _ (by rw [he]; exact Tryd.underlying22) .i64 (q : Int) (by omega) (by omega), he, hsz]
  simp only [Result.andThen, sliced, Int.toNat_natCast, Nat.mul_one, Option.map_some]
  split
  · rfl
  · simp [Addr.add]
    omega
theorem cut_nil (w : World) : (Instr.slice 22 (.slice none 0 0) none (some (.int .i64 0)) none).run Tryd.prog w = .ok (.slice none 0 0) w := by kernel_rfl
theorem cut_nil2 (w : World) : (Instr.slice 22 (.slice none 0 0) (some (.int .i64 0)) none none).run Tryd.prog w = .ok (.slice none 0 0) w := by kernel_rfl

theorem make_ints (w : World) (m : Nat) (mi : Int) (hmi : mi = m) (h : m ≤ 1000000) : (Instr.makeSlice 22 (.int .i64 0) (.int .i64 mi)).run Tryd.prog w = .ok (.slice (some ⟨w.heap.size, 0, none⟩) 0 m) (w.alloc (.cells (icells (List.replicate m 0)) 3)) := by
  subst hmi
  obtain ⟨i0, hi, hz0, hz1, hz2⟩ := info_parts Tryd.infoInt
  have hmk := run_make (P := Tryd.prog) w 22 3 i0 (.int .i64 0) Tryd.underlying22 hi hz0 .i64 .i64 0 (m : Int) (by omega) (by omega) (by rw [hz2]; omega) (by omega)
  rw [hz1, Nat.mul_one] at hmk
  simpa [madeCells_zero] using hmk

theorem row_base {w : World} {base base' : Nat} {e : TypeId} {size : Nat} {v : Value} {n : Nat} {xs : List Value} (h : w.ownsRow base e size v n xs) (hb : base' ≤ base) : w.ownsRow base' e size v n xs := by
  refine ⟨h.1, ?_⟩
  rcases h.2 with hn | ⟨g, cap, cur, hv, hbg, rest⟩
  · exact .inl hn
  · exact .inr ⟨g, cap, cur, hv, Nat.le_trans hb hbg, rest⟩

theorem made_row (w : World) (base m : Nat) (hb : base ≤ w.heap.size) (hm : m ≤ 1000000) : (w.alloc (.cells (icells (List.replicate m 0)) 3)).ownsRow base 3 1 (.slice (some ⟨w.heap.size, 0, none⟩) 0 m) 0 [] :=
  World.ownsRow_made w _ m hb (by unfold maxLen; omega) (by simp [icells])

/-- What is appended, out of a row that is only read. -/
theorem src_row {w : World} {g : Nat} {xs : List Int} (h : ∀ i, i < xs.length → w.cell? ⟨g, i, none⟩ = some (.int .i64 (xs.getD i 0))) (o m c : Nat) (hm : o + m ≤ xs.length) (off : Nat) (hoff : off = o ∨ m = 0) :
    SrcV w (.slice (some ⟨g, off, none⟩) m c) m (((xs.drop o).take m).map (Value.int .i64)) := by
  refine .inr ⟨_, c, rfl, fun j u hj => ?_⟩
  have hjl : j < m := by
    have := (List.getElem?_eq_some_iff.1 hj).1
    simp at this; omega
  have hoff' : off = o := by omega
  subst hoff'
  rw [List.getElem?_map, List.getElem?_take, if_pos hjl, List.getElem?_drop] at hj
  rw [Addr.add_lit, h (off + j) (by omega), List.getD_eq_getElem?_getD]
  rw [List.getElem?_eq_getElem (by omega)] at hj ⊢
  simpa using hj

theorem oneI (xs : List Int) : ∀ u ∈ xs.map (Value.int .i64), u.oneCell' = true := by
  intro u hu
  obtain ⟨_, _, rfl⟩ := List.mem_map.1 hu
  rfl

/-- The two parts of a row at q, as they are appended. -/
theorem parts {w : World} {base : Nat} {po : Option Addr} {co : Nat} {out : List Int} (h : OwnI w base 3 (.slice po out.length co) out) (q : Nat) (hq : q ≤ out.length) :
    ∃ po2 co2, (∀ w, (Instr.slice 22 (.slice po out.length co) none (some (.int .i64 (q : Int))) none).run Tryd.prog w = .ok (.slice po q co) w) ∧
      (∀ w, (Instr.slice 22 (.slice po out.length co) (some (.int .i64 (q : Int))) none none).run Tryd.prog w = .ok (.slice po2 (out.length - q) co2) w) ∧
      (∀ w', Upd [] w w' → SrcV w' (.slice po q co) q ((out.take q).map (Value.int .i64))) ∧ (∀ w', Upd [] w w' → SrcV w' (.slice po2 (out.length - q) co2) (out.length - q) ((out.drop q).map (Value.int .i64))) := by
  rcases h.form with ⟨h1, rfl⟩ | ⟨g, c, h1, h2, h3, h4, h5⟩
  · obtain rfl : q = 0 := by simpa using hq
    injection h1 with e1 e2 e3
    subst e1 e3
    exact ⟨none, 0, fun w => cut_nil w, fun w => cut_nil2 w, fun _ _ => .inl ⟨0, rfl, rfl, rfl⟩, fun _ _ => .inl ⟨0, rfl, rfl, rfl⟩⟩
  · injection h1 with e1 e2 e3
    subst e1 e3
    refine ⟨_, _, fun w => cut_hi w g out.length co q (by omega), fun w => cut_lo w g out.length co q hq, fun w' hu => ?_, fun w' hu => ?_⟩
    · have := src_row (w := w') (g := g) (xs := out) (fun i hi => hu.cell (h5 i hi) (by simp)) 0 q co (by omega) 0 (.inl rfl)
      simpa using this
    · have := src_row (w := w') (g := g) (xs := out) (fun i hi => hu.cell (h5 i hi) (by simp)) q (out.length - q) (co - q) (by omega) (if co = q then 0 else q) (by
        split
        · right; omega
        · left; rfl)
      rwa [List.take_of_length_le (by simp)] at this
end Go.Proofs.YtneeljhjfmcdoaaDoor
