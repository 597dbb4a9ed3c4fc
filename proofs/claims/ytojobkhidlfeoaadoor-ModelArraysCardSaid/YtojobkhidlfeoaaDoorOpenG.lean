/- Opening a []int64 that comes in; none has no room. -/
import Derived.Test.YtojobkhidlfeoaaDoorFrame
import Derived.Test.YtojobkhidlfeoaaDoorMdM
import Derived.Test.YtojobkhidlfeoaaDoorInts
namespace Go.Proofs.YtojobkhidlfeoaaDoor
open Go.ChangeShapes Go.WideShapes Go.ChangeAt Go.RowKit

/-- A slice value reads as these integers, wherever they lie. -/
def IntsW (w : World) (v : Value) (xs : List Int) : Prop := ∃ p c, v = .slice p xs.length c ∧ ∀ i, i < xs.length → ∃ b o, p = some ⟨b, o, none⟩ ∧ w.cell? ⟨b, o + i, none⟩ = some (.int .i64 (xs.getD i 0))
theorem IntsW.form {w : World} {v : Value} {xs : List Int} (h : IntsW w v xs) : ∃ p c, v = .slice p xs.length c := by
 obtain ⟨p, c, h1, _⟩ := h
 exact ⟨p, c, h1⟩
theorem IntsW.nth {w : World} {p : Option Addr} {n c : Nat} {xs : List Int} (h : IntsW w (.slice p n c) xs) (k : Nat) (hk : k < xs.length) : ∃ b o, p = some ⟨b, o, none⟩ ∧ w.cell? ⟨b, o + k, none⟩ = some (.int .i64 (xs.getD k 0)) := by
 obtain ⟨p', c', h1, h2⟩ := h
 injection h1 with e1
 subst e1
 exact h2 k hk
theorem IntsW.upd {w w' : World} {v : Value} {xs : List Int} (h : IntsW w v xs) (hu : Upd [] w w') : IntsW w' v xs := by
 obtain ⟨p, c, h1, h2⟩ := h
 refine ⟨p, c, h1, fun i hi => ?_⟩
 obtain ⟨b, o, h3, h4⟩ := h2 i hi
 exact ⟨b, o, h3, hu.cell h4 (by simp)⟩
theorem IntsV.wide {w : World} {v : Value} {b : Nat} {xs : List Int} (h : IntsV w v b xs) : IntsW w v xs := by
 rcases h.1 with ⟨h1, h2⟩ | ⟨c, h1⟩
 ·subst h2
  exact ⟨none, 0, h1, by simp⟩
 ·exact ⟨_, c, h1, fun i hi => ⟨b, 0, rfl, by rw [Nat.zero_add]; exact h.2 i hi⟩⟩
theorem LngV.wide {w : World} {v : Value} {b o : Nat} {xs : List Int} (h : LngV w v b o xs) : IntsW w v xs := by
 obtain ⟨⟨p, c, h1, _, _, h4⟩, h5⟩ := h
 refine ⟨p, c, h1, fun i hi => ⟨b, o, h4 (fun e => by rw [e] at hi; simp at hi), ?_⟩⟩
 have := h5 i hi
 exact this
/-- A beginning. -/
theorem IntsW.take {w : World} {p : Option Addr} {n c : Nat} {xs : List Int} (h : IntsW w (.slice p n c) xs) (k c' : Nat) (hk : k ≤ xs.length) : IntsW w (.slice p k c') (xs.take k) := by
 refine ⟨p, c', by rw [List.length_take, Nat.min_eq_left hk], fun i hi => ?_⟩
 rw [List.length_take, Nat.min_eq_left hk] at hi
 obtain ⟨b, o, h1, h2⟩ := h.nth i (by omega)
 refine ⟨b, o, h1, ?_⟩
 rw [h2, List.getD_eq_getElem?_getD, List.getD_eq_getElem?_getD, List.getElem?_take, if_pos hi]

/-- A slice value reads as these integers; none has no room. -/
def LongsAt (W : World) (v : Value) (xs : List Int) : Prop :=
 ∃ a cap, v = .slice a xs.length cap ∧ (a = none → cap = 0) ∧ (∀ x ∈ xs, in64 x) ∧ ∃ b o, LngV W (.slice a xs.length cap) b o xs
theorem LongsAt.upd {w w' : World} {v : Value} {xs : List Int} (h : LongsAt w v xs) (hu : Upd [] w w') : LongsAt w' v xs := by
 obtain ⟨a, cap, h1, h2, h3, b, o, h4⟩ := h
 exact ⟨a, cap, h1, h2, h3, b, o, h4.upd hu (.inr (by simp))⟩
theorem open_longs {H : Type} {enc : TypeId × Value → H} {W : World} {v : Value} {d : DataW H} {p : List MemPlace}
  (hval : ∃ a len cap, v = .slice a len cap) (h : DataW.Trod enc Tryd.prog W 0 (fun _ => true) true 22 v d p) : ∃ xs, LongsAt W v xs := by
 obtain ⟨a0, len, cap, rfl⟩ := hval
 obtain ⟨fuel, hf⟩ := h
 rcases open_ints Tryd.underlying22 Tryd.underlying2 (by kernel_rfl) hf with ⟨hcs, hx⟩ | ⟨a, len', cap', zs, hcs, _, hl, hm, hz, hx, hcell, hwz⟩
 ·simp [Value.cells] at hcs
  obtain ⟨rfl, rfl, rfl⟩ := hcs
  exact ⟨[], none, 0, rfl, fun _ => rfl, by simp, 0, 0, ⟨none, 0, rfl, by simp, by simp [maxLen], fun h => absurd rfl h⟩, by simp⟩
 ·simp [Value.cells] at hcs
  obtain ⟨rfl, rfl, rfl⟩ := hcs
  simp at hz
  have hlen : (zs.take len).length = len := by simp; omega
  refine ⟨zs.take len, some a, cap, by rw [hlen], (fun h => nomatch h), fun x hx => bd_i64 (hwz x (List.mem_of_mem_take hx)), ?_⟩
  by_cases h0 : len = 0
  ·refine ⟨0, 0, ⟨some a, cap, rfl, by rw [hlen]; exact hl, hm, fun h => absurd (by subst h0; simp) h⟩, fun i hi => ?_⟩
   rw [hlen] at hi
   omega
  ·obtain ⟨b, off, rfl, hc'⟩ := ints_at hcell (by omega)
   refine ⟨b, off, ⟨some _, cap, rfl, by rw [hlen]; exact hl, hm, fun _ => rfl⟩, fun i hi => ?_⟩
   rw [hlen] at hi
   rw [hc' i (by omega)]
   have hiz : i < zs.length := by omega
   simp [List.getD_eq_getElem?_getD, hi, hiz]
end Go.Proofs.YtojobkhidlfeoaaDoor
