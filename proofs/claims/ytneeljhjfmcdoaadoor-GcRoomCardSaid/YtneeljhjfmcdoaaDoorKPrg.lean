/- A law's own program in memory. -/
import Derived.Test.YtneeljhjfmcdoaaDoorMay3
import Derived.Test.YtneeljhjfmcdoaaDoorStep
namespace Go.Proofs.YtneeljhjfmcdoaaDoor
open Go.RowKit

/-- Classes that lie in a row of one's own. -/
theorem ClassAt.of_row {w : World} {base : Nat} {v : Value} {cs : List ByteArray} (h : w.ownsRow base 44 1 v cs.length (cs.map Value.string)) (hs : ∀ c ∈ cs, c.size ≤ maxLen) : ClassAt w v cs := by
  rcases h.2 with ⟨hv, hn⟩ | ⟨g, cap, cur, hv, hb, hg, hc1, hc2, rest⟩
  · have : cs = [] := List.eq_nil_of_length_eq_zero hn
    subst this
    exact ⟨none, 0, hv, fun _ => rfl, by simp, by simp [maxLen], by simp⟩
  · refine ⟨some ⟨g, 0, none⟩, cap, hv, by simp, hc1, hc2, fun i hi => ⟨g, 0, rfl, ?_, ?_⟩⟩
    · rw [List.getD_eq_getElem?_getD, List.getElem?_eq_getElem hi]; exact hs _ (List.getElem_mem hi)
    · have h1 := h.cells (g := g) (by rw [hv]; rfl) i (.string (cs.getD i ByteArray.empty)) (by
        rw [List.getElem?_map, List.getElem?_eq_getElem hi, List.getD_eq_getElem?_getD, List.getElem?_eq_getElem hi]; rfl)
      rwa [Addr.add_lit] at h1

/-- The law's one method. -/
def retMeth : Meth := ⟨⟨#[]⟩, ⟨#[]⟩, ⟨#[]⟩, [⟨33, 0, 0, 0⟩]⟩

theorem meths_one {w : World} {a b : Nat} (h1 : w.heap[a]? = some (.cells #[.int .i64 33, .int .i64 0, .int .i64 0, .int .i64 0] 46)) (h2 : w.heap[b]? = some (.cells #[.string ⟨#[]⟩, .string ⟨#[]⟩, .string ⟨#[]⟩, .slice (some ⟨a, 0, none⟩) 1 1] 49)) :
    MethsAt w (.slice (some ⟨b, 0, none⟩) 1 1) [retMeth] := by
  refine ⟨_, 1, rfl, by simp, by simp [maxLen], fun i hi => ⟨b, 0, rfl, ?_, ?_⟩⟩
  · obtain rfl : i = 0 := by simpa using hi
    exact ⟨Nat.zero_le _, Nat.zero_le _, Nat.zero_le _⟩
  · obtain rfl : i = 0 := by simpa using hi
    refine ⟨by rw [cell_of h2]; rfl, by rw [cell_of h2]; rfl, by rw [cell_of h2]; rfl, _, by rw [cell_of h2]; rfl, ?_⟩
    refine ⟨_, 1, rfl, by simp [retMeth], by simp [maxLen], fun q hq => ⟨a, 0, rfl, ?_, ?_⟩⟩
    · obtain rfl : q = 0 := by simp [retMeth] at hq; exact hq
      simp [retMeth, Ins.bd]
    · obtain rfl : q = 0 := by simp [retMeth] at hq; exact hq
      exact ⟨by rw [cell_of h1]; rfl, by rw [cell_of h1]; rfl, by rw [cell_of h1]; rfl, by rw [cell_of h1]; rfl⟩

/-- The law's program in memory: an instruction, a method, the program, the row of its classes. -/
structure KPrg (w w1 wr : World) (cv : Value) (k : Nat) (cs : List ByteArray) : Prop where
  u : Upd [] w wr
  i : wr.heap[w1.heap.size]? = some (.cells #[.int .i64 33, .int .i64 0, .int .i64 0, .int .i64 0] 46)
  m : wr.heap[w1.heap.size + 1]? = some (.cells #[.string ⟨#[]⟩, .string ⟨#[]⟩, .string ⟨#[]⟩, .slice (some ⟨w1.heap.size, 0, none⟩) 1 1] 49)
  p : wr.heap[w1.heap.size + 1 + 1]? = some (.cells #[cv, .slice (some ⟨w1.heap.size + 1, 0, none⟩) 1 1] 28)
  row : wr.ownsRow (w1.heap.size + 1 + 1 + 1) 44 1 cv k (cs.map Value.string)

theorem KPrg.start {w w1 : World} (hu1 : Upd [] w w1) :
    KPrg w w1 (((w1.alloc (.cells #[.int .i64 33, .int .i64 0, .int .i64 0, .int .i64 0] 46)).alloc (.cells #[.string ⟨#[]⟩, .string ⟨#[]⟩, .string ⟨#[]⟩, .slice (some ⟨w1.heap.size, 0, none⟩) 1 1] 49)).alloc (.cells #[.slice none 0 0, .slice (some ⟨w1.heap.size + 1, 0, none⟩) 1 1] 28)) (.slice none 0 0) 0 [] := by
  refine ⟨((hu1.alloc _).alloc _).alloc _, ?_, ?_, ?_, World.ownsRow_nil _ _ _ _⟩
  · exact (((Upd.refl [] _).alloc _).alloc _).heap (heap_alloc_new w1 _) (by simp)
  · have := ((Upd.refl [] _).alloc (.cells #[.slice none 0 0, .slice (some ⟨w1.heap.size + 1, 0, none⟩) 1 1] 28)).heap (heap_alloc_new (w1.alloc (.cells #[.int .i64 33, .int .i64 0, .int .i64 0, .int .i64 0] 46)) (.cells #[.string ⟨#[]⟩, .string ⟨#[]⟩, .string ⟨#[]⟩, .slice (some ⟨w1.heap.size, 0, none⟩) 1 1] 49)) (by simp)
    simpa using this
  · have := heap_alloc_new ((w1.alloc (.cells #[.int .i64 33, .int .i64 0, .int .i64 0, .int .i64 0] 46)).alloc (.cells #[.string ⟨#[]⟩, .string ⟨#[]⟩, .string ⟨#[]⟩, .slice (some ⟨w1.heap.size, 0, none⟩) 1 1] 49)) (.cells #[.slice none 0 0, .slice (some ⟨w1.heap.size + 1, 0, none⟩) 1 1] 28)
    simpa using this

theorem KPrg.upd {w w1 wr w2 : World} {cv : Value} {k : Nat} {cs : List ByteArray} (h : KPrg w w1 wr cv k cs) (hu : Upd [] wr w2) : KPrg w w1 w2 cv k cs :=
  ⟨h.u.trans hu, hu.heap h.i (by simp), hu.heap h.m (by simp), hu.heap h.p (by simp), row_upd h.row hu (by simp)⟩

/-- The row has grown, the program's cell not yet. -/
theorem KPrg.push {w w1 wr w6 : World} {cv v' : Value} {k : Nat} {cs cs' : List ByteArray} (h : KPrg w w1 wr cv k cs) (hg : wr.grownBy w6 cv.ownBlock) (hown : w6.ownsRow (w1.heap.size + 1 + 1 + 1) 44 1 v' (k + 1) (cs'.map Value.string)) (hw : w.heap.size ≤ w1.heap.size) :
    (∃ g c', v' = .slice (some ⟨g, 0, none⟩) (k + 1) c') ∧ w6.cell? ⟨w1.heap.size + 1 + 1, 0, none⟩ = some cv ∧ w6.frozen? ⟨w1.heap.size + 1 + 1, 0, none⟩ = false ∧ KPrg w w1 (w6.setCell ⟨w1.heap.size + 1 + 1, 0, none⟩ v') v' (k + 1) cs' := by
  have hu : Upd cv.ownBlock.toList wr w6 := (Upd.refl _ wr).grown hg (fun q hq => Or.inl (Option.mem_toList.2 hq))
  have hlo : ∀ q, cv.ownBlock = some q → w1.heap.size + 1 + 1 + 1 ≤ q := fun q hq => (h.row.lt q hq).1
  have hno : ∀ q, q < w1.heap.size + 1 + 1 + 1 → q ∉ cv.ownBlock.toList := fun q hq hm => by have := hlo q (Option.mem_toList.1 hm); omega
  have hp6 := hu.heap h.p (hno _ (by omega))
  have hs := lt_of_heap h.p
  refine ⟨?_, by rw [cell_of hp6]; rfl, froz_of hp6 0, ?_, ?_, ?_, ?_, ?_⟩
  · rcases hown.2 with ⟨_, hz⟩ | ⟨g, c', _, hv, _⟩
    · omega
    · exact ⟨g, c', hv⟩
  · exact (h.u.trans' hu (fun i hi hlt => by have := hlo i (Option.mem_toList.1 hi); omega)).setCell (Or.inr (by show w.heap.size ≤ w1.heap.size + 1 + 1; omega)) _
  · rw [Below.heap_setCell _ _ _ _ (by show w1.heap.size ≠ w1.heap.size + 1 + 1; omega)]; exact hu.heap h.i (hno _ (by omega))
  · rw [Below.heap_setCell _ _ _ _ (by show w1.heap.size + 1 ≠ w1.heap.size + 1 + 1; omega)]; exact hu.heap h.m (hno _ (by omega))
  · have := heap_setCell hp6 0 v'
    simpa using this
  · refine row_upd hown ((Upd.refl [w1.heap.size + 1 + 1] w6).setCell (Or.inl (by simp)) _) (fun q hq hm => ?_)
    simp only [List.mem_singleton] at hm
    have := (hown.lt q hq).1
    omega

end Go.Proofs.YtneeljhjfmcdoaaDoor
