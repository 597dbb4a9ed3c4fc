/- VerifySays: the walk. -/
import Derived.Test.YtpkdijbmomkdeaaGreatDoorSyA
import Derived.Test.YtpkdijbmomkdeaaGreatDoorSyL
import Derived.Test.YtpkdijbmomkdeaaGreatDoorFirst7
import Derived.Test.YtpkdijbmomkdeaaGreatDoorLightP
/-! VerifySays: the walk. -/
namespace Go.Proofs.YtpkdijbmomkdeaaGreatDoor
open Go.RowKit

theorem OfEnd.form {p : Prg} {E : Nat → Addr} {w w' : World} {v : Value} (h : OfEnd p E w v w') : ∃ a ev, v = .tuple #[.pointer a, ev] := by
  rcases h.1 with ⟨_, _, ev, _, _, rfl, _⟩ | ⟨_, _, _, _, ev, _, _, _, rfl, _⟩ | ⟨_, ib, _, _, _, rfl, _⟩
  · exact ⟨none, ev, rfl⟩
  · exact ⟨none, ev, rfl⟩
  · exact ⟨some ⟨ib, 0, none⟩, .nilIface, rfl⟩
theorem offW_at (w : World) (b : Nat) : Upd [b] w (offW w b) := ⟨rfl, rfl, rfl, by rw [offW_size]; exact Nat.le_refl _, fun k _ hs => offW_heap _ _ _ (by simpa using hs)⟩
theorem LksT.reads {w w' : World} {v : Value} {ms : List Meth} {ss : List Lk} (h : LksT w v ms ss) (hr : Reads w w') : LksT w' v ms ss := by
  obtain ⟨a, cap, h1, h2, h3⟩ := h
  refine ⟨a, cap, h1, h2, fun i hi => ?_⟩
  obtain ⟨b, o, gs, gb, h4, h5, h6, h7, h8⟩ := h3 i hi
  exact ⟨b, o, gs, gb, h4, hr _ _ h5, hr _ _ h6, hr _ _ h7, fun q hq => ⟨hr _ _ (h8 q hq).1, hr _ _ (h8 q hq).2⟩⟩

/-- In the midst of the law: what was asked. -/
structure SayB (w6 W : World) (ib : Nat) (p : Prg) (ss : List Lk) (n : Int) : Prop where
  info : InfoAt W ib p ss n
  upd : Upd [ib] w6 W
theorem SayB.same {w6 W W' : World} {ib : Nat} {p : Prg} {ss : List Lk} {n : Int} (h : SayB w6 W ib p ss n) (hu : Upd [] W W') : SayB w6 W' ib p ss n := ⟨h.info.upd hu, h.upd.trans (hu.mono (by simp))⟩
theorem SayB.step {w6 W W' : World} {ib : Nat} {p : Prg} {ss : List Lk} {n n' : Int} (h : SayB w6 W ib p ss n) (hi : InfoAt W' ib p ss n') (hu : Upd [ib] W W') : SayB w6 W' ib p ss n' := ⟨hi, h.upd.trans hu⟩
theorem SayB.lt {w6 W : World} {ib : Nat} {p : Prg} {ss : List Lk} {n : Int} (h : SayB w6 W ib p ss n) : ib < W.heap.size := by
  obtain ⟨_, _, _, hb, _⟩ := h.info
  exact lt_of_heap hb

/-- A row of integers behind a place. -/
def MineI (w : World) (g : Nat) (v : Value) (xs : List Int) : Prop := ∃ b, IntsV w v b xs ∧ (xs = [] ∨ g < b)
theorem MineI.upd {w w' : World} {g : Nat} {v : Value} {xs : List Int} {T : List Nat} (h : MineI w g v xs) (hu : Upd T w w') (hT : ∀ t ∈ T, t ≤ g) : MineI w' g v xs := by
  obtain ⟨b, h1, h2⟩ := h
  refine ⟨b, h1.upd hu ?_, h2⟩
  rcases h2 with h2 | h2
  · exact .inl h2
  · exact .inr (fun hm => by have := hT b hm; omega)
theorem MineI.of {w : World} {B g : Nat} {v : Value} {xs : List Int} (h : OwnI w B 3 v xs) (hg : g < B) : MineI w g v xs := by
  obtain ⟨b, h1, h2⟩ := h.ints
  refine ⟨b, h1, ?_⟩
  rcases h2 with h2 | h2
  · exact .inl h2
  · exact .inr (by omega)
theorem MineI.nil (w : World) (g : Nat) : MineI w g (.slice none 0 0) [] := ⟨0, ⟨.inl ⟨rfl, rfl⟩, fun i hi => by simp at hi⟩, .inl rfl⟩
theorem same_mine {w : World} {g : Nat} {va vb : Value} {xs : List Int} (ha : MineI w g va xs) (hb : MineI w g vb xs) (hn : xs.length ≤ 1000) :
    Calls Tryz.prog 17 #[va, vb] w fun e w' => e = .returned (.bool true) ∧ Upd [] w w' := by
  obtain ⟨ba, h1, _⟩ := ha
  obtain ⟨bb, h2, _⟩ := hb
  exact (sints va vb ba bb xs xs w h1 h2 (by omega)).mono fun e w' ⟨h3, h4⟩ => ⟨by rw [h3, decide_eq_true rfl], h4⟩

/-- What is known of a method of a program that is verified. -/
structure SyP (p : Prg) (ss : List Lk) (k : Nat) (m : Meth) (s : Lk) : Prop where
  ok : p.Ok
  lt : k < p.ms.length
  len : ss.length = p.ms.length
  look : lookM p (p.ms.getD k default) = .ok (ss.getD k default)
  meth : p.ms.getD k default = m
  lk : ss.getD k default = s
theorem SyP.sizes {p : Prg} {ss : List Lk} {k : Nat} {m : Meth} {s : Lk} (hP : SyP p ss k m s) : m.code.length ≤ 120 ∧ 1 ≤ m.code.length ∧ m.params.size ≤ 12 ∧ m.locals.size ≤ 12 ∧ (kindsL m).length ≤ 24 ∧ p.ms.length ≤ 12 ∧ (∀ q, (s.stk.getD q []).length ≤ 12) ∧ s.most ≤ 12 := by
  have h1 := hP.ok.code1 k hP.lt
  have h2 := hP.ok.sizes k
  have h0 := hP.look
  rw [hP.meth] at h1 h2 h0
  rw [hP.lk] at h0
  have h3 := (look_good (by omega) h0).2.1
  refine ⟨by omega, by omega, by omega, by omega, ?_, hP.ok.many, fun q => h3.low q, h3.most⟩
  unfold kindsL
  rw [List.length_append, ← size_list, ← size_list]
  omega
theorem rrefL_len {m : Meth} {s : Lk} {pc : Int} (h1 : (kindsL m).length ≤ 24) (h2 : ∀ q, (s.stk.getD q []).length ≤ 12) : (rrefL m s pc).length ≤ 36 := by
  unfold rrefL
  split
  · have := h2 pc.toNat
    refine Nat.le_trans (refsL_le _ _) ?_
    rw [List.length_append]
    omega
  · exact Nat.zero_le _
theorem atV_seen (s : Lk) (n : Nat) (pc : Int) : ∃ t, atV s n pc = .tuple #[.string t, .bool (rseen s n pc)] := by
  unfold atV rseen seenF
  by_cases h : 0 ≤ pc ∧ pc < (n : Int)
  · cases hs : s.seen.getD pc.toNat false with
    | true => exact ⟨_, by rw [if_pos ⟨h.1, h.2, rfl⟩, decide_eq_true h]; rfl⟩
    | false => exact ⟨_, by rw [if_neg (fun hh => by cases hh.2.2), decide_eq_true h]; rfl⟩
  · exact ⟨_, by rw [if_neg (fun hh => h ⟨hh.1, hh.2.1⟩), decide_eq_false h]; rfl⟩

/-- verify's references of any place of a method. -/
theorem vrefs_any (ib : Nat) (p : Prg) (ss : List Lk) (n : Int) (k : Nat) (m : Meth) (s : Lk) (i : Nat) (w : World) (hP : SyP p ss k m s) (h : InfoAt w ib p ss n) (hi : i < m.code.length) (h0 : 0 ≤ n) (h1 : n ≤ 1000000000) :
    Calls Tryz.prog 18 #[.pointer (some ⟨ib, 0, none⟩), .int .i64 k, .int .i64 i] w fun e w' => ∃ u, e = .returned u ∧ MineI w' ib u (rrefL m s i) ∧ InfoAt w' ib p ss (n + 1) ∧ Upd [ib] w w' := by
  have hib : ib < w.heap.size := by
    obtain ⟨_, _, _, hb, _⟩ := h
    exact lt_of_heap hb
  have hz := hP.sizes
  have hks : (kindsL m).length = m.params.size + m.locals.size := by
    unfold kindsL
    rw [List.length_append, ← size_list, ← size_list]
  cases hs : s.seen.getD i false with
  | true =>
    have hr : rrefL m s i = refsL (kindsL m ++ s.stk.getD i []) 0 := by
      unfold rrefL rseen seenF
      rw [Int.toNat_natCast, decide_eq_true ⟨by omega, by omega⟩, hs]
      rfl
    have ha : Asc (kindsL m ++ s.stk.getD i []) := by
      have h1 := hP.ok.asc hP.lt
      have h2 := look_asc hP.ok hP.lt hP.look i
      rw [hP.meth] at h1
      rw [hP.lk] at h2
      exact h1.app h2
    have h12 := hz.2.2.2.2.2.2.1 i
    have hcl : (p.ms.getD k default).code.length ≤ 1000 := by rw [hP.meth]; omega
    have hil : i < (p.ms.getD k default).code.length := by rw [hP.meth]; exact hi
    have hsl : (ss.getD k default).seen.getD i false = true := by rw [hP.lk]; exact hs
    have hp1 : (p.ms.getD k default).params.size ≤ 1000000 := by rw [hP.meth]; omega
    have hp2 : (p.ms.getD k default).locals.size ≤ 1000000 := by rw [hP.meth]; omega
    refine (refs_in2 ib p ss n k i w h hP.len hP.lt hcl h0 h1 hil hsl _ (by rw [hP.meth, hP.lk]) (by rw [List.length_append]; omega) ha hp1 hp2).mono ?_
    rintro e w' ⟨u, rfl, hown, has, hu⟩
    exact ⟨u, rfl, by rw [hr]; exact MineI.of hown hib, has.at_, hu⟩
  | false =>
    have hr : rrefL m s i = [] := by
      unfold rrefL rseen seenF
      rw [Int.toNat_natCast, hs, Bool.and_false]
      rfl
    have hcl : (p.ms.getD k default).code.length ≤ 1000 := by rw [hP.meth]; omega
    refine (refs_out ib p ss n k i w h hP.len hP.lt hcl h0 h1 (fun hh => by
      have := hh.2.2
      rw [hP.lk, Int.toNat_natCast, hs] at this
      cases this)).mono ?_
    rintro e w' ⟨rfl, hi2, hu⟩
    exact ⟨_, rfl, by rw [hr]; exact MineI.nil _ _, hi2, hu⟩

end Go.Proofs.YtpkdijbmomkdeaaGreatDoor
