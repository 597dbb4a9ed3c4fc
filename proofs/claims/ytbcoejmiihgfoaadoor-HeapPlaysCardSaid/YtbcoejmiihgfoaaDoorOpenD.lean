/- A []Do of law 11 that comes in, opened. -/
import Derived.Test.YtbcoejmiihgfoaaDoorOpenP
namespace Go.Proofs.YtbcoejmiihgfoaaDoor
open Go.RowKit Go.ChangeShapes Go.WideShapes Go.Deep

/-- Something that a heap is told. -/
structure Do5 where
 kind : Int
 a : Int
 b : Int
 n : Int
 v : Int

def Do5.bd (d : Do5) : Prop := (-9223372036854775808 ≤ d.kind ∧ d.kind ≤ 9223372036854775807) ∧ (-9223372036854775808 ≤ d.a ∧ d.a ≤ 9223372036854775807) ∧ (-9223372036854775808 ≤ d.b ∧ d.b ≤ 9223372036854775807) ∧ (-9223372036854775808 ≤ d.n ∧ d.n ≤ 9223372036854775807) ∧ (-9223372036854775808 ≤ d.v ∧ d.v ≤ 9223372036854775807)

/-- The cells of one such thing. -/
def DoIn (w : World) (b o : Nat) (d : Do5) : Prop :=
 w.cell? ⟨b, o, none⟩ = some (.int .i64 d.kind) ∧ w.cell? ⟨b, o + 1, none⟩ = some (.int .i64 d.a) ∧ w.cell? ⟨b, o + 2, none⟩ = some (.int .i64 d.b) ∧ w.cell? ⟨b, o + 3, none⟩ = some (.int .i64 d.n) ∧ w.cell? ⟨b, o + 4, none⟩ = some (.int .i64 d.v)

theorem DoIn.upd {w w' : World} {b o : Nat} {d : Do5} {T : List Nat} (h : DoIn w b o d) (hu : Upd T w w') (hb : b ∉ T) : DoIn w' b o d :=
 ⟨hu.cell h.1 hb, hu.cell h.2.1 hb, hu.cell h.2.2.1 hb, hu.cell h.2.2.2.1 hb, hu.cell h.2.2.2.2 hb⟩

/-- A slice value reads as so many things. -/
def DosAt (W : World) (v : Value) (n : Nat) : Prop :=
 ∃ a cap, v = .slice a n cap ∧ n ≤ cap ∧ cap ≤ maxLen ∧ ∀ i, i < n → ∃ b o d, a = some ⟨b, o, none⟩ ∧ d.bd ∧ DoIn W b (o + i * 5) d

section
variable {H : Type} {enc : TypeId × Value → H} {W : World}
theorem open_dos {v : Value} {d : DataW H} {p : List MemPlace}
  (hval : ∃ a len cap, v = .slice a len cap) (h : DataW.Trod enc Tryd.prog W 0 (fun _ => true) true 26 v d p) : ∃ n, DosAt W v n := by
 obtain ⟨a9, len9, cap9, rfl⟩ := hval
 obtain ⟨fuel, hf⟩ := h
 obtain ⟨a, len, cap, hcs, ha, hl, hm, hi⟩ := open_rows Tryd.underlying26 Tryd.underlying45 (by kernel_rfl) (by kernel_rfl) hf
 simp [Value.cells] at hcs
 obtain ⟨rfl, rfl, rfl⟩ := hcs
 refine ⟨_, _, _, rfl, hl, hm, fun i hil => ?_⟩
 obtain ⟨a0, rfl, hg⟩ := hi i hil
 obtain ⟨n0, v0, y0, c0, t0⟩ := hg 0 _ rfl
 obtain ⟨n1, v1, y1, c1, t1⟩ := hg 1 _ rfl
 obtain ⟨n2, v2, y2, c2, t2⟩ := hg 2 _ rfl
 obtain ⟨n3, v3, y3, c3, t3⟩ := hg 3 _ rfl
 obtain ⟨n4, v4, y4, c4, t4⟩ := hg 4 _ rfl
 obtain ⟨b, o, rfl⟩ : ∃ b o, a0 = ⟨b, o, none⟩ := by
  obtain ⟨a1, h1, hf1⟩ := hi 0 (by omega)
  obtain rfl := Option.some.inj h1
  obtain ⟨_, _, _, c9, _⟩ := hf1 0 _ rfl
  rw [Nat.zero_mul] at c9
  exact plain_of c9
 obtain ⟨x0, e0, b0⟩ := field_i64 Tryd.underlying3 c0 t0
 obtain ⟨x1, e1, b1⟩ := field_i64 Tryd.underlying3 c1 t1
 obtain ⟨x2, e2, b2⟩ := field_i64 Tryd.underlying3 c2 t2
 obtain ⟨x3, e3, b3⟩ := field_i64 Tryd.underlying3 c3 t3
 obtain ⟨x4, e4, b4⟩ := field_i64 Tryd.underlying2 c4 t4
 rw [Go.WideShapes.add_plain] at e0 e1 e2 e3 e4
 refine ⟨b, o, ⟨x0, x1, x2, x3, x4⟩, rfl, ⟨b0, b1, b2, b3, b4⟩, ?_, ?_, ?_, ?_, ?_⟩
 ·simpa [Nat.add_assoc] using e0
 ·simpa [Nat.add_assoc] using e1
 ·simpa [Nat.add_assoc] using e2
 ·simpa [Nat.add_assoc] using e3
 ·simpa [Nat.add_assoc] using e4
end
end Go.Proofs.YtbcoejmiihgfoaaDoor
