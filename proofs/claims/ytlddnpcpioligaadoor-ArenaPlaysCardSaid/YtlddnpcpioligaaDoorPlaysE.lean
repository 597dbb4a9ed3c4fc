/- The walk of ArenaPlays, whole. -/
import Derived.Test.YtlddnpcpioligaaDoorPlaysI
import Derived.Test.YtlddnpcpioligaaDoorPlaysN
import Derived.Test.YtlddnpcpioligaaDoorPlaysH
namespace Go.Proofs.YtlddnpcpioligaaDoor
open Go.RowKit Go.ChangeShapes Go.WideShapes

theorem plays_any (n ask : Int) (v : Value) (k : Nat) (w : World) (E : Nat → Addr) (hE : SentAt w E) (hd : DosAt w v k) :
    Calls Tryd.prog 5 #[.int .i64 n, v, .int .i64 ask] w fun e w' => e = .returned (.bool true) ∧ Upd [] w w' := by
  obtain ⟨a, cap, rfl, hcap, hmax, hx⟩ := hd
  have hm := Nat.le_trans hcap hmax
  unfold maxLen at hm
  by_cases h60 : 60 < k
  · exact plays_long n ask a k cap w h60 (by omega)
  · by_cases h1 : n < 0 ∨ 65536 < n
    · exact plays_out n ask a k cap w E hE (by omega) h1
    · by_cases h2 : 200 < n
      · exact plays_big n ask a k cap w (by omega) h2 (by omega)
      · obtain ⟨m, rfl⟩ := Int.eq_ofNat_of_zero_le (show 0 ≤ n by omega)
        by_cases h3 : ask < 0
        · exact plays_neg m k cap ask h3 a w (by omega) (by omega) hx
        · by_cases h4 : (m : Int) ≤ ask
          · exact plays_high m k cap ask h4 a w (by omega) (by omega) hx
          · obtain ⟨q, rfl⟩ := Int.eq_ofNat_of_zero_le (show 0 ≤ ask by omega)
            exact plays_in m k cap q (by omega) a w (by omega) (by omega) hx

theorem open_dos2 {H : Type} {enc : TypeId × Value → H} {W : World} {v : Value} {d : DataW H} {p : List MemPlace}
    (hv : ∃ a len cap, v = .slice a len cap) (h : DataW.Trod enc Tryd.prog W 0 (fun _ => true) true 43 v d p) : ∃ n, DosAt W v n := by
  obtain ⟨a0, len, cap, rfl⟩ := hv
  obtain ⟨fuel, hf⟩ := h
  rcases open_slice_fields Tryd.underlying43 Tryd.underlying46 (by kernel_rfl) (by kernel_rfl) hf with ⟨hcs, hx⟩ | ⟨a, len', cap', m, D, Pl, hcs, _, hl, hm, hmm, hx, hi⟩
  · simp [Value.cells] at hcs
    obtain ⟨rfl, rfl, rfl⟩ := hcs
    exact ⟨0, none, 0, rfl, by simp, by simp, by omega⟩
  · simp [Value.cells] at hcs
    obtain ⟨rfl, rfl, rfl⟩ := hcs
    simp at hmm
    subst hmm
    refine ⟨len, some a, _, rfl, hl, hm, fun i hil => ?_⟩
    obtain ⟨ys, n, _, _, _, hg⟩ := hi i (by omega)
    obtain ⟨b, o, spot⟩ := a
    have hspot : spot = none := by
      obtain ⟨_, _, _, _, _, hg0⟩ := hi 0 (by omega)
      obtain ⟨_, _, c00, _, _⟩ := hg0 0 _ rfl
      simpa [Addr.add] using World.cell?_spot c00
    subst hspot
    obtain ⟨v0, y0, c0, _, t0⟩ := hg 0 _ rfl
    obtain ⟨v1, y1, c1, _, t1⟩ := hg 1 _ rfl
    obtain ⟨v2, y2, c2, _, t2⟩ := hg 2 _ rfl
    obtain ⟨v3, y3, c3, _, t3⟩ := hg 3 _ rfl
    obtain ⟨v4, y4, c4, _, t4⟩ := hg 4 _ rfl
    rw [Go.WideShapes.add_plain] at c0 c1 c2 c3 c4
    obtain ⟨x0, e0, b0⟩ := open_field_i64 (b := b) Tryd.underlying3 c0 t0
    obtain ⟨x1, e1, b1⟩ := open_field_i64 (b := b) Tryd.underlying3 c1 t1
    obtain ⟨x2, e2, b2⟩ := open_field_i64 (b := b) Tryd.underlying3 c2 t2
    obtain ⟨x3, e3, b3⟩ := open_field_i64 (b := b) Tryd.underlying3 c3 t3
    obtain ⟨x4, e4, b4⟩ := open_field_i64 (b := b) Tryd.underlying2 c4 t4
    refine ⟨b, o, ⟨x0, x1, x2, x3, x4⟩, rfl, ?_, ?_, ?_, ?_, ?_, ?_⟩
    · intro x hx
      simp [Do5.cells] at hx
      rcases hx with rfl | rfl | rfl | rfl | rfl <;> assumption
    · simpa [Nat.add_assoc] using e0
    · simpa [Nat.add_assoc] using e1
    · simpa [Nat.add_assoc] using e2
    · simpa [Nat.add_assoc] using e3
    · simpa [Nat.add_assoc] using e4

end Go.Proofs.YtlddnpcpioligaaDoor
