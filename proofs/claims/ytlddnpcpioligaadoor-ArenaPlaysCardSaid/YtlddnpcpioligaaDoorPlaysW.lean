/- The walk of ArenaPlays. -/
import Derived.Test.YtlddnpcpioligaaDoorAl1
import Derived.Test.YtlddnpcpioligaaDoorSee
import Derived.Test.YtlddnpcpioligaaDoorLongs
import Derived.Test.YtlddnpcpioligaaDoorFrame
import Derived.Deep.Fields
namespace Go.Proofs.YtlddnpcpioligaaDoor
open Go.RowKit Go.ChangeShapes Go.WideShapes

/-- Something that an arena is told. -/
structure Do5 where
  kind : Int
  a : Int
  b : Int
  n : Int
  v : Int

def Do5.cells (d : Do5) : List Int := [d.kind, d.a, d.b, d.n, d.v]

/-- The cells of one such thing. -/
def DoIn (w : World) (b o : Nat) (d : Do5) : Prop :=
  w.cell? ⟨b, o, none⟩ = some (.int .i64 d.kind) ∧ w.cell? ⟨b, o + 1, none⟩ = some (.int .i64 d.a) ∧ w.cell? ⟨b, o + 2, none⟩ = some (.int .i64 d.b) ∧ w.cell? ⟨b, o + 3, none⟩ = some (.int .i64 d.n) ∧ w.cell? ⟨b, o + 4, none⟩ = some (.int .i64 d.v)

def Do5.bd (d : Do5) : Prop := ∀ x ∈ d.cells, -9223372036854775808 ≤ x ∧ x ≤ 9223372036854775807

/-- A slice value reads as so many things. -/
def DosAt (W : World) (v : Value) (n : Nat) : Prop :=
  ∃ a cap, v = .slice a n cap ∧ n ≤ cap ∧ cap ≤ maxLen ∧ ∀ i, i < n → ∃ b o d, a = some ⟨b, o, none⟩ ∧ d.bd ∧ DoIn W b (o + i * 5) d

section
variable {H : Type} {enc : TypeId × Value → H} {P : Program} {w : World} {base : Nat} {spare : Nat → Bool} {held : Bool}
open Go.Deep
theorem open_slice_fields {t e : TypeId} {fs : Array Field} {fuel : Nat} {cs : List Value} {x : DataW H × List MemPlace} (ht : P.underlying t = some (.slice e)) (he : P.underlying e = some (.struct fs))
    (hone : oneCellFields P fs = true) (hC : P.cellsOf e = fs.size) (h : DataW.trod enc P w base spare held fuel t cs = some x) :
    (cs = [.slice none 0 0] ∧ x = (.nil, [])) ∨
    ∃ (a : Addr) (len cap m : Nat) (D : Nat → DataW H) (Pl : Nat → List MemPlace), cs = [.slice (some a) len cap] ∧ base ≤ a.block ∧ len ≤ cap ∧ cap ≤ maxLen ∧ m = (if spare a.block then cap else len) ∧
      x = (.slice ((List.range len).map D) ((List.range (m - len)).map fun j => D (len + j)), MemPlace.row a (m * fs.size) ++ (List.range m).flatMap Pl) ∧
      ∀ i, i < m → ∃ (ys : List (DataW H × List MemPlace)) (n : Nat), D i = .agg (ys.map (·.1)) ∧ Pl i = ys.flatMap (·.2) ∧ ys.length = fs.size ∧
        ∀ (j : Nat) (f : Field), fs[j]? = some f → ∃ (v : Value) (y : DataW H × List MemPlace), w.cell? (a.add (i * fs.size + j)) = some v ∧ ys[j]? = some y ∧ DataW.trod enc P w base spare held n f.type [v] = some y := by
  rcases open_slice ht h with h0 | ⟨a, len, cap, m, n, D, Pl, hcs, hb, hl, hm, hmm, hx, hi⟩
  · exact .inl h0
  · refine .inr ⟨a, len, cap, m, D, Pl, hcs, hb, hl, hm, hmm, by rw [hC] at hx; exact hx, fun i him => ?_⟩
    obtain ⟨cs', hc, ht'⟩ := hi i him
    rw [hC] at hc
    obtain ⟨ys, n', hn', hy, hlen, hyl, hf⟩ := DataW.trod_struct he ht'
    obtain ⟨_, hcl, hat⟩ := World.cells?_some hc
    simp only [Prod.mk.injEq] at hy
    refine ⟨ys, n', hy.1, hy.2, hyl, fun j f hj => ?_⟩
    obtain ⟨ho, hk⟩ := hone_of hone j f hj
    have hjl : j < fs.size := (Array.getElem?_eq_some_iff.1 hj).1
    have hcell := hat j hjl
    have hv : cs'[j]? = some (cs'[j]'(by omega)) := List.getElem?_eq_getElem (by omega)
    have h1 := hf j f hj
    rw [ho, hk] at h1
    have hone' : (cs'.drop j).take 1 = [cs'[j]'(by omega)] := by
      rw [List.drop_eq_getElem_cons (by omega)]
      rfl
    rw [hone'] at h1
    have hys : ys[j]? = some (ys[j]'(by omega)) := List.getElem?_eq_getElem (by omega)
    refine ⟨_, _, ?_, hys, h1.trans hys⟩
    rw [← Go.Deep.add_add, hcell, hv]
end

theorem open_field_i64 {H : Type} {enc : TypeId × Value → H} {W : World} {n : Nat} {t : TypeId} {v : Value} {y : DataW H × List MemPlace} {b o : Nat} (ht : Tryd.prog.underlying t = some (.int .i64)) (hc : W.cell? ⟨b, o, none⟩ = some v)
    (h : DataW.trod enc Tryd.prog W 0 (fun _ => true) true n t [v] = some y) : ∃ x, W.cell? ⟨b, o, none⟩ = some (.int .i64 x) ∧ -9223372036854775808 ≤ x ∧ x ≤ 9223372036854775807 := by
  obtain ⟨x, hx, _, hw⟩ := DataW.trod_int ht h
  simp at hx
  subst hx
  exact ⟨x, hc, bd_i64 hw⟩

theorem open_dos {H : Type} {enc : TypeId × Value → H} {W : World} {v : Value} {d : DataW H} {p : List MemPlace}
    (hv : Value.okWide Tryd.prog W .any 0 43 v) (h : DataW.Trod enc Tryd.prog W 0 (fun _ => true) true 43 v d p) : ∃ n, DosAt W v n := by
  obtain ⟨a0, len, cap, rfl⟩ := okWide_slice Tryd.underlying43 hv
  obtain ⟨fuel, hf⟩ := h
  rcases open_slice_fields Tryd.underlying43 Tryd.underlying46 (by kernel_rfl) (by kernel_rfl) hf with ⟨hcs, hx⟩ | ⟨a, len', cap', m, D, Pl, hcs, _, hl, hm, hmm, hx, hi⟩
  · simp [Value.cells] at hcs
    obtain ⟨rfl, rfl, rfl⟩ := hcs
    exact ⟨0, none, 0, rfl, by simp, by simp, by omega⟩
  · simp [Value.cells] at hcs
    obtain ⟨rfl, rfl, rfl⟩ := hcs
    simp at hmm
    subst hmm
    refine ⟨len, some a, _, rfl, hl, hm, fun i hil => ?_⟩
    obtain ⟨ys, n, _, _, _, hg⟩ := hi i (by omega)
    obtain ⟨b, o, spot⟩ := a
    have hspot : spot = none := by
      obtain ⟨_, _, _, _, _, hg0⟩ := hi 0 (by omega)
      obtain ⟨_, _, c00, _, _⟩ := hg0 0 _ rfl
      simpa [Addr.add] using World.cell?_spot c00
    subst hspot
    obtain ⟨v0, y0, c0, _, t0⟩ := hg 0 _ rfl
    obtain ⟨v1, y1, c1, _, t1⟩ := hg 1 _ rfl
    obtain ⟨v2, y2, c2, _, t2⟩ := hg 2 _ rfl
    obtain ⟨v3, y3, c3, _, t3⟩ := hg 3 _ rfl
    obtain ⟨v4, y4, c4, _, t4⟩ := hg 4 _ rfl
    rw [Go.WideShapes.add_plain] at c0 c1 c2 c3 c4
    obtain ⟨x0, e0, b0⟩ := open_field_i64 (b := b) Tryd.underlying3 c0 t0
    obtain ⟨x1, e1, b1⟩ := open_field_i64 (b := b) Tryd.underlying3 c1 t1
    obtain ⟨x2, e2, b2⟩ := open_field_i64 (b := b) Tryd.underlying3 c2 t2
    obtain ⟨x3, e3, b3⟩ := open_field_i64 (b := b) Tryd.underlying3 c3 t3
    obtain ⟨x4, e4, b4⟩ := open_field_i64 (b := b) Tryd.underlying2 c4 t4
    refine ⟨b, o, ⟨x0, x1, x2, x3, x4⟩, rfl, ?_, ?_, ?_, ?_, ?_, ?_⟩
    · intro x hx
      simp [Do5.cells] at hx
      rcases hx with rfl | rfl | rfl | rfl | rfl <;> assumption
    · simpa [Nat.add_assoc] using e0
    · simpa [Nat.add_assoc] using e1
    · simpa [Nat.add_assoc] using e2
    · simpa [Nat.add_assoc] using e3
    · simpa [Nat.add_assoc] using e4

set_option maxHeartbeats 400000 in
theorem new_no (n : Int) (w : World) (v : Value) (h : n < 0 ∨ 65536 < n) (hc : w.cell? ⟨0, 0, none⟩ = some v) :
    Calls Tryd.prog 12 #[.int .i64 n] w fun e w' => e = .returned (.tuple #[.pointer none, v]) ∧ ∃ m, w' = w.drewN m := by
  go_enter Tryd.func12, Tryd.ntmps12
  go_wp2_with fail
  all_goals
    go_quiet (fail)
    go_wp2_with fail
    go_ret2
    exact ⟨rfl, _, rfl⟩

set_option maxRecDepth 100000 in
set_option maxHeartbeats 1000000 in
theorem plays_long (n ask : Int) (a : Option Addr) (k cap : Nat) (w : World) (h60 : 60 < k) (hm : k ≤ 9223372036854775807) :
    Calls Tryd.prog 5 #[.int .i64 n, .slice a k cap, .int .i64 ask] w fun e w' => e = .returned (.bool true) ∧ Upd [] w w' := by
  go_enter Tryd.func5, Tryd.ntmps5
  go_wp2_with fail
  refine (first_any _).mono ?_
  rintro e w1 ⟨rfl, hu⟩
  go_wp2_with fail
  go_ret
  exact ⟨rfl, hu⟩

set_option maxRecDepth 100000 in
set_option maxHeartbeats 1000000 in
theorem plays_big (n ask : Int) (a : Option Addr) (k cap : Nat) (w : World) (h60 : k ≤ 60) (h : 200 < n) (h2 : n ≤ 65536) :
    Calls Tryd.prog 5 #[.int .i64 n, .slice a k cap, .int .i64 ask] w fun e w' => e = .returned (.bool true) ∧ Upd [] w w' := by
  go_enter Tryd.func5, Tryd.ntmps5
  go_wp2_with fail
  refine (first_any _).mono ?_
  rintro e w1 ⟨rfl, hu⟩
  go_wp2_with fail
  go_ret
  exact ⟨rfl, hu⟩

set_option maxRecDepth 100000 in
set_option maxHeartbeats 1000000 in
theorem plays_out (n ask : Int) (a : Option Addr) (k cap : Nat) (w : World) (E : Nat → Addr) (hE : SentAt w E) (h60 : k ≤ 60) (h : n < 0 ∨ 65536 < n) :
    Calls Tryd.prog 5 #[.int .i64 n, .slice a k cap, .int .i64 ask] w fun e w' => e = .returned (.bool true) ∧ Upd [] w w' := by
  have H := Lib.hid hE
  clear hE
  go_enter Tryd.func5, Tryd.ntmps5
  go_wp2_with fail
  refine (first_any _).mono ?_
  rintro e w1 ⟨rfl, hu⟩
  have H1 := Lib.hid (H.out.upd hu)
  go_wp2_with fail
  all_goals
    refine (new_no _ _ (sErr E 10) (by omega) (H1.out.g 10 (by omega))).mono ?_
    rintro e w2 ⟨rfl, m, rfl⟩
    have H2 := Lib.hid (is_at E 10 (by omega) 111 (w1.drewN m) (H1.out.upd ((Upd.refl _ _).drewN _)))
    unfold sErr at H2 ⊢
    go_wp2_with fail
    refine H2.out.mono ?_
    rintro e w3 ⟨rfl, hu3⟩
    go_wp2_with fail
    go_ret
    exact ⟨rfl, (hu.drewN _).trans hu3⟩

end Go.Proofs.YtlddnpcpioligaaDoor
