/- LiveSays' plain half: what live says is what the document says. LiveSays: the law's walk. -/
import Derived.Test.YtpmfbhoochogoaaGreatDoorLsV
import Derived.Deep.DeepCutAuto
import Derived.Deep.QuietTactic
import Derived.BigQuiet
import Derived.StillTailTactics
import Derived.Test.YtpmfbhoochogoaaGreatDoorSameI
import Derived.Test.YtpmfbhoochogoaaGreatDoorFirst8
import Derived.Test.YtpmfbhoochogoaaGreatDoorWInfo
/-! LiveSays' plain half: what live says is what the document says. -/
/-! LiveSays' plain half: what live says is what the document says. -/
namespace Go.Proofs.YtpmfbhoochogoaaGreatDoor
open Go.RowKit

set_option maxHeartbeats 400000 in
theorem among_one (v : Value) (b : Nat) (xs : List Int) (x : Int) (w : World) (h : IntsV w v b xs) (hn : xs.length ≤ 1000000) :
    Calls Tryz.prog 44 #[v, .int .i64 x] w fun e w' => e = .returned (.bool (decide (x ∈ xs))) ∧ w = w' := by
  obtain ⟨p, c, rfl⟩ := h.form
  go_enter Tryz.func44, Tryz.ntmps44
  go_wp2_with fail
  go_loopw [5] (fun i wr => ∃ k : Nat, k ≤ xs.length ∧ i = .int .i64 k ∧ w = wr ∧ Hid (∀ j, j < k → xs.getD j 0 ≠ x)) (fun i _ => xs.length - (intOf i).toNat)
  case atStart => exact ⟨0, by omega, rfl, rfl, (fun j hj => by omega : ∀ j, j < 0 → _)⟩
  case round =>
    obtain ⟨k, hk, rfl, rfl, HK⟩ := hrel
    by_cases hlt : k < xs.length
    · obtain ⟨rfl, h2⟩ := sints_nth _ _ _ _ _ h k hlt
      have HX := Lib.hid (rfl : xs.getD k 0 = xs.getD k 0)
      generalize hy : xs.getD k 0 = y at h2 HX
      have HY := Lib.hid hy
      clear hy
      by_cases hyx : y = x
      · have e1 : (y == x) = true := by rw [beq_iff_eq]; exact hyx
        have HE := Lib.hid hyx
        clear hyx
        go_wp2_with fail
        go_ret
        have : x ∈ xs := by
          rw [List.getD_eq_getElem?_getD, List.getElem?_eq_getElem hlt] at HY
          have h3 := HY.out
          rw [HE.out] at h3
          simp only [Option.getD_some] at h3
          rw [← h3]; exact List.getElem_mem hlt
        exact ⟨by rw [decide_eq_true this]; rfl, rfl⟩
      · have e1 : (y == x) = false := by rw [beq_eq_false_iff_ne]; exact hyx
        have HE := Lib.hid hyx
        clear hyx
        go_wp2_with fail
        go_roundw
        case rel =>
          refine ⟨k + 1, by omega, by go_num, trivial, (fun j hj => ?_ : ∀ j, j < k + 1 → _)⟩
          by_cases e : j = k
          · subst e; rw [HY.out]; exact HE.out
          · exact HK.out j (by omega)
        case measure => simp [intOf]; omega
    · obtain rfl : k = xs.length := by omega
      go_wp2_with fail
      go_ret
      have : x ∉ xs := by
        intro hm
        obtain ⟨j, hj, rfl⟩ := List.getElem_of_mem hm
        have := HK.out j hj
        rw [List.getD_eq_getElem?_getD, List.getElem?_eq_getElem hj] at this
        exact this rfl
      exact ⟨by rw [decide_eq_false this]; rfl, rfl⟩


theorem live_lt {xs : List Ins} {seen : Nat → Prop} {nk : Nat} (hload : ∀ i, seen i → (xs.getD i default).op = 3 → (xs.getD i default).a < (nk : Int)) {pc k : Nat} (h : LiveR xs seen pc k) : k < nk := by
  induction h with
  | load pc k hs h3 ha =>
    have := hload pc hs h3
    omega
  | go _ _ _ _ _ _ _ ih => exact ih
theorem LvP.nk {p : Prg} {ss : List Lk} {k : Nat} {m : Meth} {s : Lk} (h : LvP p ss k m s) {pc q : Nat} (hl : liveG m.code (seenF s) pc q = true) : q < (kindsL m).length := by
  refine live_lt (fun i hi h3 => ?_) ((liveG_iff _ _ _ _).1 hl)
  have h1 := h.seen_lt hi
  have h2 := h.meth
  rw [h2] at h1 h3 ⊢
  exact (h.ok.load h.lt h1 (.inl h3)).2
theorem live_seen {m : Meth} {s : Lk} {pc q : Nat} (hl : liveG m.code (seenF s) pc q = true) : seenF s pc = true := ((liveG_iff _ _ _ _).1 hl).at_seen
/-- What is live ahead of a place: the document's list. -/
noncomputable def docL (m : Meth) (s : Lk) (pc : Int) : List Int := locT m.code.length (kindsL m).length (liveG m.code (seenF s)) pc
theorem docL_is (m : Meth) (s : Lk) (pc : Int) : docL m s pc = locG m s pc := rfl
theorem mem_docL {m : Meth} {s : Lk} {pc x : Int} : x ∈ docL m s pc ↔ (0 ≤ pc ∧ pc < (m.code.length : Int)) ∧ 0 ≤ x ∧ x < ((kindsL m).length : Int) ∧ liveG m.code (seenF s) pc.toNat x.toNat = true := by
  unfold docL locT
  split
  · rename_i hp
    unfold ints
    rw [List.mem_map]
    constructor
    · rintro ⟨y, hy, rfl⟩
      rw [List.mem_filter, List.mem_range] at hy
      refine ⟨hp, by omega, by omega, ?_⟩
      rw [show ((y : Int)).toNat = y from by omega]
      exact hy.2
    · rintro ⟨_, h0, h1, h2⟩
      refine ⟨x.toNat, ?_, by omega⟩
      rw [List.mem_filter, List.mem_range]
      exact ⟨by omega, h2⟩
  · rename_i hp
    constructor
    · intro h; cases h
    · intro h; exact absurd h.1 hp
theorem docL_unseen {m : Meth} {s : Lk} {pc : Int} (h : rseen s m.code.length pc = false) : docL m s pc = [] := by
  refine List.eq_nil_iff_forall_not_mem.2 (fun x hx => ?_)
  obtain ⟨h1, _, _, h2⟩ := mem_docL.1 hx
  unfold rseen at h
  rw [decide_eq_true h1, live_seen h2] at h
  cases h
theorem LvP.has {p : Prg} {ss : List Lk} {k : Nat} {m : Meth} {s : Lk} (h : LvP p ss k m s) (pc x : Int) : hasG m s pc x = decide (x ∈ docL m s pc) := by
  rw [Bool.eq_iff_iff, decide_eq_true_eq, mem_docL]
  unfold hasG
  rw [Bool.and_eq_true, decide_eq_true_eq]
  constructor
  · rintro ⟨⟨h1, h2, h3⟩, h4⟩
    have := h.nk h4
    exact ⟨⟨h1, h2⟩, h3, by omega, h4⟩
  · rintro ⟨⟨h1, h2⟩, h3, _, h4⟩
    exact ⟨⟨h1, h2, h3⟩, h4⟩
theorem LvP.has2 {p : Prg} {ss : List Lk} {k : Nat} {m : Meth} {s : Lk} (h : LvP p ss k m s) (pc x : Int) : hasG m s pc x = (rseen s m.code.length pc && decide (x ∈ docL m s pc)) := by
  cases hr : rseen s m.code.length pc with
  | true => rw [Bool.true_and]; exact h.has pc x
  | false =>
    rw [Bool.false_and, h.has, docL_unseen hr]
    simp
/-- The slots that count, as the law finds them. -/
noncomputable def docR (m : Meth) (s : Lk) (i : Nat) : List Int := (rrefL m s i).filter (fun x => decide (((kindsL m).length : Int) ≤ x) || decide (x ∈ docL m s i))
theorem LvP.refs {p : Prg} {ss : List Lk} {k : Nat} {m : Meth} {s : Lk} (h : LvP p ss k m s) {i : Nat} (hi : i < m.code.length) : lrefL m s i = docR m s i := by
  have hs : rseen s m.code.length (i : Int) = seenF s i := by
    unfold rseen
    rw [decide_eq_true (by omega), Bool.true_and, Int.toNat_natCast]
  unfold lrefL docR rrefL
  rw [hs]
  by_cases e : seenF s i = true
  · rw [if_pos e, if_pos e, Int.toNat_natCast]
    refine List.filter_congr (fun x _ => ?_)
    rw [h.has]
  · rw [if_neg e, if_neg e]
    rfl
theorem ints_lt (c : Nat) (f : Nat → Bool) : (ints ((List.range c).filter f)).Pairwise (· < ·) := by
  unfold ints
  rw [List.pairwise_map]
  refine (List.Pairwise.filter f List.pairwise_lt_range).imp (fun h => by omega)
theorem LvP.behind {p : Prg} {ss : List Lk} {k : Nat} {m : Meth} {s : Lk} (h : LvP p ss k m s) {i : Nat} (hi : i < m.code.length) : behG m s i = rbehL m s (kindsL m).length (liveG m.code (seenF s)) i := by
  have hs : rseen s m.code.length (i : Int) = seenF s i := by
    unfold rseen
    rw [decide_eq_true (by omega), Bool.true_and, Int.toNat_natCast]
  unfold behG rbehL
  rw [hs]
  by_cases e : seenF s i = true
  · rw [if_pos ⟨by omega, by omega, by rw [Int.toNat_natCast]; exact e⟩, if_pos e, Int.toNat_natCast]
    refine sorted_eq _ _ (ints_lt _ _) (sortL_spec _).1 (fun x => ?_)
    rw [(sortL_spec _).2, List.mem_flatMap]
    have hm : ∀ q : Int, x ∈ locT m.code.length (kindsL m).length (liveG m.code (seenF s)) q ↔ _ := fun q => mem_docL (m := m) (s := s) (pc := q) (x := x)
    constructor
    · intro hx
      unfold ints at hx
      rw [List.mem_map] at hx
      obtain ⟨y, hy, rfl⟩ := hx
      rw [List.mem_filter, List.mem_range] at hy
      have hb := hy.2
      unfold behF at hb
      rw [List.any_eq_true] at hb
      obtain ⟨q, hq, hb⟩ := hb
      rw [Bool.and_eq_true, Bool.and_eq_true, decide_eq_true_eq] at hb
      refine ⟨q, hq, (hm q).2 ⟨⟨(h.next e hq).1, hb.1⟩, by omega, by omega, ?_⟩⟩
      rw [Int.toNat_natCast]
      exact hb.2.2
    · rintro ⟨q, hq, hx⟩
      obtain ⟨h1, h2, h3, h4⟩ := (hm q).1 hx
      unfold ints
      rw [List.mem_map]
      refine ⟨x.toNat, ?_, by omega⟩
      rw [List.mem_filter, List.mem_range]
      refine ⟨by omega, ?_⟩
      unfold behF
      rw [List.any_eq_true]
      refine ⟨q, hq, ?_⟩
      rw [Bool.and_eq_true, Bool.and_eq_true, decide_eq_true_eq]
      exact ⟨h1.2, (h.next e hq).2.2, h4⟩
  · rw [if_neg (by rw [Int.toNat_natCast]; exact fun hh => e hh.2.2), if_neg e]
theorem docL_len (m : Meth) (s : Lk) (pc : Int) : (docL m s pc).length ≤ (kindsL m).length := locT_len _ _ _ _
theorem rrefL_len {m : Meth} {s : Lk} {pc : Int} (h1 : (kindsL m).length ≤ 24) (h2 : ∀ q, (s.stk.getD q []).length ≤ 12) : (rrefL m s pc).length ≤ 36 := by
  unfold rrefL
  split
  · have h3 := h2 pc.toNat
    refine Nat.le_trans (refsL_le _ _) ?_
    rw [List.length_append]
    omega
  · exact Nat.zero_le _
theorem rrefL_pos {m : Meth} {s : Lk} {pc : Int} : ∀ x ∈ rrefL m s pc, 0 ≤ x := by
  unfold rrefL
  split
  · exact refsL_pos _ _
  · intro x h; cases h
/-- The document's looks are the program's. -/
theorem looks_eq {p : Prg} {a b : List Lk} (ha : a.length = p.ms.length) (hb : b.length = p.ms.length) (h1 : ∀ j, j < p.ms.length → lookM p (p.ms.getD j default) = .ok (a.getD j default)) (h2 : ∀ j, j < p.ms.length → lookM p (p.ms.getD j default) = .ok (b.getD j default)) : a = b := by
  apply List.ext_getElem
  · omega
  · intro i hi hi2
    have h3 := (h1 i (by omega)).symm.trans (h2 i (by omega))
    injection h3 with h3
    rw [List.getD_eq_getElem?_getD, List.getD_eq_getElem?_getD, List.getElem?_eq_getElem hi, List.getElem?_eq_getElem hi2] at h3
    exact h3

/-! In the midst of the law. -/
/-- A row of integers behind a place. -/
def MineI (w : World) (g : Nat) (v : Value) (xs : List Int) : Prop := ∃ b, IntsV w v b xs ∧ (xs = [] ∨ g < b)
theorem MineI.upd {w w' : World} {g : Nat} {v : Value} {xs : List Int} {T : List Nat} (h : MineI w g v xs) (hu : Upd T w w') (hT : ∀ t ∈ T, t ≤ g) : MineI w' g v xs := by
  obtain ⟨b, h1, h2⟩ := h
  refine ⟨b, h1.upd hu ?_, h2⟩
  rcases h2 with h2 | h2
  · exact .inl h2
  · exact .inr (fun hm => by have := hT b hm; omega)
theorem MineI.of {w : World} {B g : Nat} {v : Value} {xs : List Int} (h : OwnI w B 3 v xs) (hg : g < B) : MineI w g v xs := by
  obtain ⟨b, h1, h2⟩ := h.ints
  refine ⟨b, h1, ?_⟩
  rcases h2 with h2 | h2
  · exact .inl h2
  · exact .inr (by omega)
theorem MineI.nil (w : World) (g : Nat) : MineI w g (.slice none 0 0) [] := ⟨0, ⟨.inl ⟨rfl, rfl⟩, fun i hi => by simp at hi⟩, .inl rfl⟩
theorem same_mine {w : World} {g : Nat} {va vb : Value} {xs : List Int} (ha : MineI w g va xs) (hb : MineI w g vb xs) (hn : xs.length ≤ 1000) :
    Calls Tryz.prog 30 #[va, vb] w fun e w' => e = .returned (.bool true) ∧ Upd [] w w' := by
  obtain ⟨ba, h1, _⟩ := ha
  obtain ⟨bb, h2, _⟩ := hb
  exact (sints va vb ba bb xs xs w h1 h2 (by omega)).mono fun e w' ⟨h3, h4⟩ => ⟨by rw [h3, decide_eq_true rfl], h4⟩
theorem among_mine {w : World} {g : Nat} {v : Value} {xs : List Int} (x : Int) (h : MineI w g v xs) (hn : xs.length ≤ 1000) :
    Calls Tryz.prog 44 #[v, .int .i64 x] w fun e w' => e = .returned (.bool (decide (x ∈ xs))) ∧ w = w' := by
  obtain ⟨b, h1, _⟩ := h
  exact among_one v b xs x w h1 (by omega)

/-- What stands while a method's map is looked at. -/
structure SayI (w3 wo W : World) (ib gb Bm : Nat) (p : Prg) (ss : List Lk) (nn nq : Int) (mm : Nat) (m : Meth) (s : Lk) : Prop where
  lv : LvNew wo W wo.heap.size ib p ss nn nq mm ∨ ∃ B lb kv F bk gk, LvD wo W wo.heap.size ib p ss nn nq mm m s B lb kv F bk gk
  upd : Upd [] w3 W
  mat : MatL W Bm gb m.code.length (kindsL m).length (liveG m.code (seenF s))
  ge : w3.heap.size ≤ ib ∧ ib < wo.heap.size ∧ w3.heap.size ≤ wo.heap.size ∧ wo.heap.size < gb ∧ gb < W.heap.size
section
variable {w3 wo W : World} {ib gb Bm : Nat} {p : Prg} {ss : List Lk} {nn nq : Int} {mm : Nat} {m : Meth} {s : Lk}
theorem SayI.same (h : SayI w3 wo W ib gb Bm p ss nn nq mm m s) {W' : World} (hu : Upd [] W W') : SayI w3 wo W' ib gb Bm p ss nn nq mm m s := by
  have h1 := h.ge
  have h2 := hu.size
  refine ⟨?_, h.upd.trans hu, h.mat.upd hu (by simp), by omega⟩
  rcases h.lv with h3 | ⟨B, lb, kv, F, bk, gk, h3⟩
  · exact .inl (h3.upd hu)
  · exact .inr ⟨B, lb, kv, F, bk, gk, h3.upd hu⟩
theorem SayI.step (h : SayI w3 wo W ib gb Bm p ss nn nq mm m s) {W' : World} {nq' : Int} (hd : ∃ B lb kv F bk gk, LvD wo W' wo.heap.size ib p ss nn nq' mm m s B lb kv F bk gk) (hu : Upd [wo.heap.size, ib] W W') : SayI w3 wo W' ib gb Bm p ss nn nq' mm m s := by
  have h1 := h.ge
  have h2 := hu.size
  refine ⟨.inr hd, h.upd.trans' hu (fun q hq hl => ?_), h.mat.upd hu (fun q hq => ?_), by omega⟩
  · simp only [List.mem_cons, List.not_mem_nil, or_false] at hq; omega
  · simp only [List.mem_cons, List.not_mem_nil, or_false] at hq; omega
theorem SayI.le (h : SayI w3 wo W ib gb Bm p ss nn nq mm m s) : ∀ t ∈ [wo.heap.size, ib], t ≤ gb := fun t ht => by
  have h1 := h.ge
  simp only [List.mem_cons, List.not_mem_nil, or_false] at ht
  omega
theorem say_locals (h : SayI w3 wo W ib gb Bm p ss nn nq mm m s) (hP : LvP p ss mm m s) (h0 : 0 ≤ nq) (h1 : nq ≤ 800000000) (pc : Int) :
    Calls Tryz.prog 36 #[.pointer (some ⟨wo.heap.size, 0, none⟩), .int .i64 pc] W fun e w' => ∃ nq' u, nq ≤ nq' ∧ nq' ≤ nq + 121 ∧ e = .returned u ∧ SayI w3 wo w' ib gb Bm p ss nn nq' mm m s ∧ MineI w' gb u (docL m s pc) ∧ Upd [wo.heap.size, ib] W w' := by
  refine (locals_any wo wo.heap.size ib p ss nn nq mm m s pc W hP (Nat.le_refl _) h0 (by omega) h.lv).mono ?_
  rintro e w' ⟨n', w1, u, hn1, hn2, ⟨B, lb, kv, F, bk, gk, hd⟩, hu, rfl, hown, hu2⟩
  have hs := hu.size
  have hg := h.ge
  exact ⟨n', u, hn1, by omega, rfl, (h.step ⟨B, lb, kv, F, bk, gk, hd⟩ hu).same hu2, MineI.of hown (by omega), hu.trans (hu2.mono (by simp))⟩
theorem say_refs (h : SayI w3 wo W ib gb Bm p ss nn nq mm m s) (hP : LvP p ss mm m s) (h0 : 0 ≤ nq) (h1 : nq ≤ 800000000) (i : Nat) (hi : i < m.code.length) :
    Calls Tryz.prog 46 #[.pointer (some ⟨wo.heap.size, 0, none⟩), .int .i64 i] W fun e w' => ∃ nq' u, nq ≤ nq' ∧ nq' ≤ nq + 121 ∧ e = .returned u ∧ SayI w3 wo w' ib gb Bm p ss nn nq' mm m s ∧ MineI w' gb u (docR m s i) ∧ Upd [wo.heap.size, ib] W w' := by
  refine (lrefs_any wo wo.heap.size ib p ss nn nq mm m s i W hP (Nat.le_refl _) h0 (by omega) hi h.lv).mono ?_
  rintro e w' ⟨n', u, hn1, hn2, hd, hu, rfl, hown⟩
  have hg := h.ge
  rw [hP.refs hi] at hown
  exact ⟨n', u, hn1, by omega, rfl, h.step hd hu, MineI.of hown (by omega), hu⟩
theorem say_behind (h : SayI w3 wo W ib gb Bm p ss nn nq mm m s) (hP : LvP p ss mm m s) (h0 : 0 ≤ nq) (h1 : nq ≤ 800000000) (i : Nat) :
    Calls Tryz.prog 47 #[.pointer (some ⟨wo.heap.size, 0, none⟩), .int .i64 i] W fun e w' => ∃ nq' u, nq ≤ nq' ∧ nq' ≤ nq + 121 ∧ e = .returned u ∧ SayI w3 wo w' ib gb Bm p ss nn nq' mm m s ∧ MineI w' gb u (behG m s i) ∧ Upd [wo.heap.size, ib] W w' := by
  refine (lbehind_any wo wo.heap.size ib p ss nn nq mm m s i W hP (Nat.le_refl _) h0 (by omega) h.lv).mono ?_
  rintro e w' ⟨n', w1, u, hn1, hn2, ⟨B, lb, kv, F, bk, gk, hd⟩, hu, rfl, hown, hu2⟩
  have hs := hu.size
  have hg := h.ge
  exact ⟨n', u, hn1, by omega, rfl, (h.step ⟨B, lb, kv, F, bk, gk, hd⟩ hu).same hu2, MineI.of hown (by omega), hu.trans (hu2.mono (by simp))⟩
theorem say_has (h : SayI w3 wo W ib gb Bm p ss nn nq mm m s) (hP : LvP p ss mm m s) (h0 : 0 ≤ nq) (h1 : nq ≤ 800000000) (pc x : Int) :
    Calls Tryz.prog 39 #[.pointer (some ⟨wo.heap.size, 0, none⟩), .int .i64 pc, .int .i64 x] W fun e w' => ∃ nq', nq ≤ nq' ∧ nq' ≤ nq + 121 ∧ e = .returned (.bool (rseen s m.code.length pc && decide (x ∈ docL m s pc))) ∧ SayI w3 wo w' ib gb Bm p ss nn nq' mm m s ∧ Upd [wo.heap.size, ib] W w' := by
  refine (lhas_any wo wo.heap.size ib p ss nn nq mm m s pc x W hP (Nat.le_refl _) h0 (by omega) h.lv).mono ?_
  rintro e w' ⟨n', hn1, hn2, hd, hu, rfl⟩
  exact ⟨n', hn1, by omega, by rw [hP.has2], h.step hd hu, hu⟩
theorem say_doc (h : SayI w3 wo W ib gb Bm p ss nn nq mm m s) (hk : (kindsL m).length ≤ 24) (pc : Int) :
    Calls Tryz.prog 42 #[.slice (some ⟨gb, 0, none⟩) m.code.length m.code.length, .int .i64 pc] W fun e w' => ∃ u, e = .returned u ∧ SayI w3 wo w' ib gb Bm p ss nn nq mm m s ∧ MineI w' gb u (docL m s pc) ∧ Upd [] W w' := by
  refine (rlocals_any Bm gb m.code.length (kindsL m).length (liveG m.code (seenF s)) pc W h.mat (by omega)).mono ?_
  rintro e w' ⟨u, rfl, hown, hu⟩
  exact ⟨u, rfl, h.same hu, MineI.of hown h.ge.2.2.2.2, hu⟩
theorem LvP.sizes (hP : LvP p ss mm m s) : m.code.length ≤ 120 ∧ 1 ≤ m.code.length ∧ m.params.size ≤ 12 ∧ m.locals.size ≤ 12 ∧ (kindsL m).length ≤ 24 ∧ p.ms.length ≤ 12 ∧ ∀ q, (s.stk.getD q []).length ≤ 12 := by
  have h1 := hP.ok.code1 mm hP.lt
  have h2 := hP.ok.sizes mm
  rw [← hP.meth] at h1 h2
  have h3 := (look_good (by omega) hP.look1).2.1
  refine ⟨by omega, by omega, by omega, by omega, ?_, hP.ok.many, fun q => h3.low q⟩
  unfold kindsL
  rw [List.length_append, ← size_list, ← size_list]
  omega
theorem say_rbehind (h : SayI w3 wo W ib gb Bm p ss nn nq mm m s) (hP : LvP p ss mm m s) {a0 ma : Option Addr} {n0 c0 mc : Nat} {v2 : Value} (hM : MethsAt w3 (.slice ma p.ms.length mc) p.ms) (hK : LksT w3 v2 p.ms ss) (i : Nat) (hi : i < m.code.length) :
    Calls Tryz.prog 48 #[.agg #[.slice a0 n0 c0, .slice ma p.ms.length mc, v2], .int .i64 mm, .int .i64 i, .slice (some ⟨gb, 0, none⟩) m.code.length m.code.length] W fun e w' => ∃ u, e = .returned u ∧ SayI w3 wo w' ib gb Bm p ss nn nq mm m s ∧ MineI w' gb u (behG m s i) ∧ Upd [] W w' := by
  have hz := hP.sizes
  have hb := rbehind_any p ss a0 ma n0 c0 mc v2 mm i Bm gb (kindsL m).length (liveG m.code (seenF s)) W (hK.upd h.upd) (hM.upd h.upd) hP.len hP.lt (by omega) (by rw [← hP.meth]; omega) hz.2.2.2.2.1 (by rw [← hP.meth]; exact h.mat)
  rw [← hP.meth, ← hP.lk] at hb
  refine hb.mono ?_
  rintro e w' ⟨u, rfl, hown, hu⟩
  rw [← hP.behind hi] at hown
  exact ⟨u, rfl, h.same hu, MineI.of hown h.ge.2.2.2.2, hu⟩
theorem say_rrefs (h : SayI w3 wo W ib gb Bm p ss nn nq mm m s) (hP : LvP p ss mm m s) {a0 ma : Option Addr} {n0 c0 mc : Nat} {v2 : Value} (hM : MethsAt w3 (.slice ma p.ms.length mc) p.ms) (hK : LksT w3 v2 p.ms ss) (i : Int) :
    Calls Tryz.prog 43 #[.agg #[.slice a0 n0 c0, .slice ma p.ms.length mc, v2], .int .i64 mm, .int .i64 i] W fun e w' => ∃ u, e = .returned u ∧ SayI w3 wo w' ib gb Bm p ss nn nq mm m s ∧ OwnI w' W.heap.size 3 u (rrefL m s i) ∧ Upd [] W w' := by
  have hz := hP.sizes
  have hb := rrefs_any p ss a0 ma n0 c0 mc v2 mm i W (hK.upd h.upd) (hM.upd h.upd) hP.len hP.lt (by omega) (by rw [← hP.meth]; omega) (by rw [← hP.meth]; omega) (by rw [← hP.meth]; omega) (by rw [← hP.lk]; exact hz.2.2.2.2.2.2)
  rw [← hP.meth, ← hP.lk] at hb
  refine hb.mono ?_
  rintro e w' ⟨u, rfl, hown, hu⟩
  exact ⟨u, rfl, h.same hu, hown, hu⟩
theorem say_reached (h : SayI w3 wo W ib gb Bm p ss nn nq mm m s) (hP : LvP p ss mm m s) {a0 ma : Option Addr} {n0 c0 n1 c1 : Nat} {v2 : Value} (hK : LksT w3 v2 p.ms ss) (i : Int) :
    Calls Tryz.prog 45 #[.agg #[.slice a0 n0 c0, .slice ma n1 c1, v2], .int .i64 mm, .int .i64 i] W fun e w' => e = .returned (.bool (rseen s m.code.length i)) ∧ SayI w3 wo w' ib gb Bm p ss nn nq mm m s ∧ Upd [] W w' := by
  have hz := hP.sizes
  have hb := rreached_any p ss a0 ma n0 c0 n1 c1 v2 mm i W (hK.upd h.upd) hP.len hP.lt (by omega) (by rw [← hP.meth]; omega)
  rw [← hP.meth, ← hP.lk] at hb
  exact hb.mono fun e w' ⟨h1, h2⟩ => ⟨h1, h.same h2, h2⟩
/-- The document's answer's box. -/
theorem say_box (h : SayI w3 wo W ib gb Bm p ss nn nq mm m s) {xb : Nat} {u0 u1 u2 : Value} {t : TypeId} (hx : w3.heap[xb]? = some (.cells #[u0, u1, u2] t)) : W.cell? ⟨xb, 0, none⟩ = some u0 ∧ W.cell? ⟨xb, 1, none⟩ = some u1 ∧ W.cell? ⟨xb, 2, none⟩ = some u2 := by
  have hb := h.upd.heap hx (by simp)
  exact ⟨by rw [cell_of hb]; rfl, by rw [cell_of hb]; rfl, by rw [cell_of hb]; rfl⟩
end
end Go.Proofs.YtpmfbhoochogoaaGreatDoor

/-! LiveSays: the law's walk. -/
/-! LiveSays: the law's walk. -/
namespace Go.Proofs.YtpmfbhoochogoaaGreatDoor
open Go.RowKit

theorem say_info {w3 wo W : World} {ib gb Bm : Nat} {p : Prg} {ss : List Lk} {nn nq : Int} {mm : Nat} {m : Meth} {s : Lk} (h : SayI w3 wo W ib gb Bm p ss nn nq mm m s) : InfoAt W ib p ss nq := by
  rcases h.lv with h | ⟨_, _, _, _, _, _, h⟩
  · exact h.info.now
  · exact h.info.now
theorem behG_len (m : Meth) (s : Lk) (pc : Int) : (behG m s pc).length ≤ (kindsL m).length := by
  unfold behG
  split
  · have := List.length_filter_le (behF m.code (seenF s) (liveG m.code (seenF s)) pc.toNat) (List.range (kindsL m).length)
    rw [List.length_range] at this
    unfold ints
    rw [List.length_map]
    exact this
  · exact Nat.zero_le _

set_option maxRecDepth 100000 in
set_option maxHeartbeats 16000000 in
theorem lsaW_any (E : Nat → Addr) (p : Prg) (cv mv : Value) (pc lo : Int) (w : World) (hS : SentAt w E) (hT : TzAt w) (hc : ClassAt w cv p.cs) (hm : MethsAt w mv p.ms) :
    Calls Tryz.prog 8 #[.agg #[cv, mv], .int .i64 pc, .int .i64 lo] w fun e w' => e = .returned (.bool true) ∧ Upd [] w w' := by
  have HS := Lib.hid hS
  have HT := Lib.hid hT
  have HC := Lib.hid hc
  have HM := Lib.hid hm
  obtain ⟨i0, hi0, hz0, hy1, hy2⟩ := info_parts Tryz.infoInt
  have HII := Lib.hid hi0
  have HZ0 := Lib.hid hz0
  have HY1 := Lib.hid hy1
  have HY2 := Lib.hid hy2
  clear hi0 hz0 hy1 hy2
  obtain ⟨cp, cc, rfl, _, hccl, hccm, _⟩ := hc
  obtain ⟨mp, mc, rfl, hml, hmm, hmx⟩ := hm
  have HMX := Lib.hid hmx
  clear hmx
  unfold maxLen at hccm hmm
  clear hS hT
  have HU0 := Lib.hid ((Upd.refl [] w).alloc (.cells #[.slice cp p.cs.length cc, .slice mp p.ms.length mc] 36))
  have hB0 := heap_alloc_new w (.cells #[.slice cp p.cs.length cc, .slice mp p.ms.length mc] 36)
  go_enter Tryz.func8, Tryz.ntmps8
  go_wp2_with fail
  refine (first8_any E _ (HS.out.upd HU0.out) (HT.out.upd HU0.out (by simp))).mono ?_
  rintro e w1 ⟨rfl, hu1⟩
  have HU1 := Lib.hid (HU0.out.trans hu1)
  have hB1 := hu1.heap hB0 (by simp)
  clear hu1 hB0 HU0
  have c0 : w1.cell? ⟨w.heap.size, 0, none⟩ = some (.slice cp p.cs.length cc) := by rw [cell_of hB1]; rfl
  have c1 : w1.cell? ⟨w.heap.size, 1, none⟩ = some (.slice mp p.ms.length mc) := by rw [cell_of hB1]; rfl
  clear hB1
  go_wp2_with fail
  refine (winfo_any p _ _ w1 (HC.out.upd HU1.out) (HM.out.upd HU1.out)).mono ?_
  rintro e w2 ⟨a0, n0, c0', a1, n1, c1', a2, n2, c2', b, rfl, hri, hu2⟩
  have HRI := Lib.hid hri
  have HU2 := Lib.hid (HU1.out.trans hu2)
  have c0 := hu2.cell c0 (by simp)
  have c1 := hu2.cell c1 (by simp)
  clear hu2 HU1 hri
  have HUA := Lib.hid (HU2.out.alloc (.cells #[.slice a0 n0 c0', .slice a1 n1 c1', .slice a2 n2 c2'] 49))
  cases b with
  | false =>
    go_wp2_with fail
    go_ret
    exact ⟨rfl, HUA.out⟩
  | true =>
  obtain ⟨hok, hv0, hv1, ss7, hl7, hlk7, hks7⟩ := HRI.out rfl
  injection hv0 with e1 e2 e3
  have e1 := e1.symm
  have e2 := e2.symm
  have e3 := e3.symm
  subst e1 e2 e3
  injection hv1 with e1 e2 e3
  have e1 := e1.symm
  have e2 := e2.symm
  have e3 := e3.symm
  subst e1 e2 e3
  have HOK := Lib.hid hok
  have HLK7 := Lib.hid hlk7
  have HL7 := Lib.hid hl7
  have HKS7 := Lib.hid hks7
  clear hok hl7 hlk7 hks7 HRI HU2
  have c0 := ((Upd.refl [] w2).alloc (.cells #[.slice cp p.cs.length cc, .slice mp p.ms.length mc, .slice a2 n2 c2'] 49)).cell c0 (by simp)
  have c1 := ((Upd.refl [] w2).alloc (.cells #[.slice cp p.cs.length cc, .slice mp p.ms.length mc, .slice a2 n2 c2'] 49)).cell c1 (by simp)
  have hx3 := heap_alloc_new w2 (.cells #[.slice cp p.cs.length cc, .slice mp p.ms.length mc, .slice a2 n2 c2'] 49)
  have HKS3 := Lib.hid (HKS7.out.upd ((Upd.refl [] w2).alloc (.cells #[.slice cp p.cs.length cc, .slice mp p.ms.length mc, .slice a2 n2 c2'] 49)))
  go_upto_region 3 with fail
  generalize w2.alloc (.cells #[.slice cp p.cs.length cc, .slice mp p.ms.length mc, .slice a2 n2 c2'] 49) = w3 at c0 c1 HUA hx3 HKS3 ⊢
  generalize w2.heap.size = xb at hx3 ⊢
  have HX3 := Lib.hid hx3
  have HM3 := Lib.hid (HM.out.upd HUA.out)
  have HC03 := Lib.hid c0
  have HC13 := Lib.hid c1
  have HU30 := Lib.hid HUA.out
  clear hx3
  have HOF := Lib.hid (ofV_any p (.slice cp p.cs.length cc) (.slice mp p.ms.length mc) E w3 (HS.out.upd HUA.out) (HC.out.upd HUA.out) (HM.out.upd HUA.out))
  go_wp2_with fail
  refine HOF.out.mono ?_
  rintro e w4 ⟨v3, rfl, hend, hu3⟩
  have hu34 := hu3
  have HU3 := Lib.hid (HUA.out.trans hu3)
  have HIB : Hid (w.heap.size < w3.heap.size) := World.block_lt_of_cell? _ _ c0
  have c0 := hu3.cell c0 (by simp)
  have c1 := hu3.cell c1 (by simp)
  clear hu3 HUA HOF
  rcases hend with ⟨c, at_, ev, h1, h2, _⟩ | ⟨_, k, c, pc, ev, hk, _, hbad, _⟩ | ⟨_, ib, ss, hl, hlk, rfl, hinfo, hib, hib2⟩
  · exact absurd (h1.zero HOK.out).1 h2
  · rw [HLK7.out k hk] at hbad
    cases hbad
  have HLK := Lib.hid hlk
  have HI := Lib.hid hinfo
  have HL := Lib.hid hl
  obtain rfl : ss7 = ss := looks_eq HL7.out hl HLK7.out hlk
  clear hlk hinfo hl HLK7 HL7 HKS7
  have hmany := HOK.out.many
  have hpos := HOK.out.one
  have HU34 := Lib.hid hu34
  clear hu34
  have HZ34 := Lib.hid HU34.out.size
  clear c0 c1
  go_wp2_with fail
  go_loopw [12, 13, 14, 15, 16, 17, 18, 19, 20, 21] (fun mv _ _ _ _ _ _ _ _ _ wr => ∃ (mm : Nat) (nn : Int), mm ≤ p.ms.length ∧ mv = .int .i64 mm ∧ 0 ≤ nn ∧ nn ≤ 100000 * mm ∧ Hid (InfoAt wr ib p ss7 nn) ∧ Hid (Upd [] w3 wr) ∧ Hid (w4.heap.size ≤ wr.heap.size)) (fun mv _ _ _ _ _ _ _ _ _ _ => p.ms.length - (intOf mv).toNat)
  case atStart => exact ⟨0, 0, by omega, rfl, by omega, by omega, HI.out, HU34.out, Nat.le_refl _⟩
  case round =>
    clear HI HU34
    obtain ⟨mm, nn, hmm2, rfl, hn0, hn1, HI, HV, HSZ⟩ := hrel
    obtain ⟨wo, rfl⟩ : ∃ wo : World, wo = wr := ⟨_, rfl⟩
    have c1 := HV.out.cell HC13.out (by simp)
    by_cases hlt : mm < p.ms.length
    · have HP : Hid (LvP p ss7 mm (p.ms.getD mm default) (ss7.getD mm default)) := ⟨HL.out, hlt, HOK.out, HLK.out, rfl, rfl⟩
      obtain ⟨bm, mo, rfl, _, q0, q1, q2, kv, q3, hcode⟩ := HMX.out mm hlt
      generalize hmk : p.ms.getD mm default = m at q0 q1 q2 hcode HP
      generalize hsk : ss7.getD mm default = s at HP
      clear hmk hsk
      obtain ⟨ka, kc, rfl, _⟩ := hcode
      have hz := HP.out.sizes
      go_wp2_with fail
      refine (live_of ib mm wo).mono ?_
      rintro e w5 ⟨rfl, hw5⟩
      have hb5 := heap_alloc_new wo (.cells (mapCells ib mm 0 0 nilM (.slice none 0 0) (.slice none 0 0)) 147)
      have hu5 := (Upd.refl [] wo).alloc (.cells (mapCells ib mm 0 0 nilM (.slice none 0 0) (.slice none 0 0)) 147)
      rw [← (show w5 = wo.alloc (.cells (mapCells ib mm 0 0 nilM (.slice none 0 0) (.slice none 0 0)) 147) from hw5)] at hb5 hu5
      have hz5 : w5.heap.size = wo.heap.size + 1 := by rw [hw5]; simp
      have HV5 := Lib.hid (HV.out.trans hu5)
      have hibo : ib < wo.heap.size := by have := HSZ.out; omega
      have h3o : w3.heap.size ≤ wo.heap.size := HV.out.size
      have HNEW : Hid (LvNew wo w5 wo.heap.size ib p ss7 nn nn mm) := ⟨hb5, (InfoK.start HI.out).keep hu5 (by simp), HT.out.upd (HU30.out.trans HV5.out) (by simp)⟩
      have x0 : w5.cell? ⟨xb, 0, none⟩ = some (.slice cp p.cs.length cc) := by rw [cell_of (HV5.out.heap HX3.out (by simp))]; rfl
      have x1 : w5.cell? ⟨xb, 1, none⟩ = some (.slice (some ⟨bm, mo, none⟩) p.ms.length mc) := by rw [cell_of (HV5.out.heap HX3.out (by simp))]; rfl
      have x2 : w5.cell? ⟨xb, 2, none⟩ = some (.slice a2 n2 c2') := by rw [cell_of (HV5.out.heap HX3.out (by simp))]; rfl
      have c1 := hu5.cell c1 (by simp)
      have HLV := Lib.hid (rlive_any p ss7 cp (some ⟨bm, mo, none⟩) p.cs.length cc mc (.slice a2 n2 c2') mm m s w5 HP.out (HM3.out.upd HV5.out) (HKS3.out.upd HV5.out))
      clear hw5 hb5 hu5 HI
      go_wp2_with fail
      refine HLV.out.mono ?_
      rintro e w6 ⟨gb, rfl, hmat, hu6⟩
      have hgbl : gb < w6.heap.size := lt_of_heap hmat.blk
      have HSY : Hid (SayI w3 wo w6 ib gb w5.heap.size p ss7 nn nn mm m s) := ⟨.inl (HNEW.out.upd hu6), HV5.out.trans hu6, hmat, by have := hmat.ge; omega⟩
      have c1 := hu6.cell c1 (by simp)
      have HWU : Hid (Upd [] w w6) := HU30.out.trans (HV5.out.trans hu6)
      have b0 := HWU.out.cell q0 (by simp)
      have b1 := HWU.out.cell q1 (by simp)
      have b2 := HWU.out.cell q2 (by simp)
      have b3 := HWU.out.cell q3 (by simp)
      have HQ3 := Lib.hid q3
      clear hmat hu6 HLV HNEW x0 x1 x2 q0 q1 q2 q3
      go_wp2_with fail
      refine (rkinds_any m _ w6 (by omega) (by omega)).mono ?_
      rintro e w7 ⟨rfl, hu7⟩
      have HSY7 := Lib.hid (HSY.out.same hu7)
      have hksz : (bs (kindsL m)).size = (kindsL m).length := bs_size _
      clear hu7 HSY c1 b0 b1 b2 b3 HWU HV5
      go_wp2_with fail
      go_loopw [16, 17, 18, 19, 20] (fun iv _ _ _ _ wr => ∃ (i : Nat) (nq : Int), i ≤ m.code.length ∧ iv = .int .i64 i ∧ nn ≤ nq ∧ nq ≤ nn + 400 * i ∧ Hid (SayI w3 wo wr ib gb w5.heap.size p ss7 nn nq mm m s)) (fun iv _ _ _ _ _ => m.code.length - (intOf iv).toNat)
      case atStart => exact ⟨0, nn, by omega, rfl, by omega, by omega, HSY7.out⟩
      case round =>
        clear HSY7
        obtain ⟨i, nq, hi, rfl, hq0, hq1, HSY⟩ := hrel
        obtain ⟨w8, rfl⟩ : ∃ w8 : World, w8 = wr := ⟨_, rfl⟩
        have c1 := HSY.out.upd.cell HC13.out (by simp)
        have b3 := (HU30.out.trans HSY.out.upd).cell HQ3.out (by simp)
        obtain ⟨x0, x1, x2⟩ := say_box HSY.out HX3.out
        by_cases hil : i < m.code.length
        · have HDO := Lib.hid (say_doc HSY.out hz.2.2.2.2.1 i)
          go_wp2_with fail
          refine HDO.out.mono ?_
          rintro e wA ⟨ua, rfl, hsa, hma, hua⟩
          have HSA := Lib.hid hsa
          have HMA := Lib.hid hma
          clear x0 x1 x2 c1 b3 hsa hma hua HDO HSY
          obtain ⟨x0, x1, x2⟩ := say_box HSA.out HX3.out
          have HRR := Lib.hid (say_rrefs (a0 := cp) (n0 := p.cs.length) (c0 := cc) HSA.out HP.out HM3.out HKS3.out i)
          go_wp2_with fail
          refine HRR.out.mono ?_
          rintro e wB ⟨ul, rfl, hsb, hob, hub⟩
          obtain ⟨up, uc, rfl⟩ := hob.shape
          have HSB := Lib.hid hsb
          have HMB := Lib.hid (HMA.out.upd hub (by simp))
          have HOB := Lib.hid hob
          have hrl : (rrefL m s i).length ≤ 36 := rrefL_len hz.2.2.2.2.1 hz.2.2.2.2.2.2
          have HRP : Hid (∀ x ∈ rrefL m s i, 0 ≤ x) := rrefL_pos
          have hgbB : gb < wB.heap.size := hsb.ge.2.2.2.2
          clear x0 x1 x2 hsb hob hub HRR HSA HMA
          have HDR : Hid (docR m s i = (rrefL m s i).filter (fun x => decide (((kindsL m).length : Int) ≤ x) || decide (x ∈ docL m s i))) := rfl
          generalize hff : (fun x : Int => decide (((kindsL m).length : Int) ≤ x) || decide (x ∈ docL m s i)) = f at HDR
          have HFF : Hid (∀ x, f x = (decide (((kindsL m).length : Int) ≤ x) || decide (x ∈ docL m s i))) := fun x => by rw [← hff]
          clear hff
          generalize rrefL m s i = R at HOB hrl HRP HDR
          have hdl := docL_len m s i
          go_wp2_with fail
          go_loopw [18, 20] (fun v jv wr => ∃ j : Nat, j ≤ R.length ∧ jv = .int .i64 j ∧ Hid (OwnI wr wB.heap.size 3 v ((R.take j).filter f)) ∧ Hid (Upd [] wB wr)) (fun _ jv _ => R.length - (intOf jv).toNat)
          case atStart => exact ⟨0, by omega, rfl, OwnI.nil _ _ _, Upd.refl _ _⟩
          case round =>
            obtain ⟨j, hj, rfl, HX, HU⟩ := hrel
            obtain ⟨wq, rfl⟩ : ∃ wq : World, wq = wr := ⟨_, rfl⟩
            obtain ⟨vp, vc, hv⟩ := HX.out.shape
            by_cases hjl : j < R.length
            · have hcl : ∃ gn, up = some ⟨gn, 0, none⟩ ∧ wq.cell? ⟨gn, j, none⟩ = some (.int .i64 (R.getD j 0)) := by
                rcases (HOB.out.upd HU.out (by simp)).form with ⟨h1, h2⟩ | ⟨g, c, h1, _, _, _, h5⟩
                · rw [h2] at hjl; simp at hjl
                · injection h1 with h1
                  exact ⟨g, h1, h5 j hjl⟩
              obtain ⟨gn, rfl, hcx⟩ := hcl
              have HT9 := Lib.hid (filter_take f R j hjl)
              have hLl : ((R.take j).filter f).length ≤ 36 := by
                have h1 := List.length_filter_le f (R.take j)
                rw [List.length_take] at h1
                omega
              generalize R.getD j 0 = x at hcx HT9
              generalize hL : ((R.take j).filter f).length = M at hv hLl
              subst hv
              have HLM := Lib.hid hL
              clear hL
              have HAM := Lib.hid (among_mine x (HMB.out.upd HU.out (by simp)) (by omega))
              by_cases hge : ((kindsL m).length : Int) ≤ x
              · have HF : Hid (f x = true) := by
                  show _ = _
                  rw [HFF.out, decide_eq_true hge, Bool.true_or]
                clear HAM
                have HT3 : Hid ((R.take (j + 1)).filter f = (R.take j).filter f ++ [x]) := by
                  have := HT9.out
                  rwa [if_pos HF.out] at this
                clear HT9
                go_wp2_with (at_builtin; refine stop_here ?_)
                refine Hid.mk ?_
                have hrow : (wq.alloc (.cells #[.int .i64 x] 3)).ownsRow wB.heap.size 3 1 (.slice vp M vc) M (((R.take j).filter f).map (Value.int .i64)) := by
                  have h := row_upd HX.out ((Upd.refl [] wq).alloc (.cells #[.int .i64 x] 3)) (by simp)
                  rwa [HLM.out] at h
                have hsw := HU.out.size
                refine (wpList_append_src rfl _ _ 42 rfl wB.heap.size 3 i0 _ 1 8 Tryz.underlying42 HII.out HZ0.out HY1.out HY2.out rfl (by decide) _ _ _ rfl hrow _ 1 ([x].map (Value.int .i64)) rfl (.inr ⟨_, _, rfl, fun y u hu => by
                  rw [Addr.add_lit, Nat.zero_add, cell_of (heap_alloc_new wq _)]
                  show (([x].map (Value.int .i64)).toArray)[y]? = some u
                  rw [List.getElem?_toArray]
                  exact hu⟩) rfl (oneI _) (by unfold maxLen; omega) (by omega) (by simp; omega) ?_)
                intro v' wz hown hgr hob
                have hown2 : wz.ownsRow wB.heap.size 3 1 v' (((R.take j).filter f).length + 1) (((R.take j).filter f).map (Value.int .i64) ++ [.int .i64 x]) := by rw [HLM.out]; exact hown
                obtain ⟨hP, hW, hB⟩ := HX.out.push hown2 hgr
                rw [← HT3.out] at hP
                have HPU := Lib.hid hP
                have HU7 := Lib.hid (HU.out.trans' hW (fun q hq hl => by have := (hB q hq).1; omega))
                clear hP hW hB hown hown2 hgr hrow hsw hob
                go_wp2_with fail
                go_roundw
                case rel => exact ⟨j + 1, by omega, by go_num, HPU.out, HU7.out⟩
                case measure => simp [intOf]; omega
              · have hge2 : x < ((kindsL m).length : Int) := by omega
                have HFX : Hid (f x = decide (x ∈ docL m s i)) := by
                  show _ = _
                  rw [HFF.out, decide_eq_false hge, Bool.false_or]
                rw [← HFX.out] at HAM
                clear hge
                cases hfx : f x with
                | true =>
                  rw [hfx] at HAM
                  have HF : Hid (f x = true) := hfx
                  clear hfx
                  go_wp2_with fail
                  refine HAM.out.mono ?_
                  rintro e w9 ⟨rfl, rfl⟩
                  have HT3 : Hid ((R.take (j + 1)).filter f = (R.take j).filter f ++ [x]) := by
                    have := HT9.out
                    rwa [if_pos HF.out] at this
                  clear HT9
                  go_wp2_with (at_builtin; refine stop_here ?_)
                  refine Hid.mk ?_
                  have hrow : (wq.alloc (.cells #[.int .i64 x] 3)).ownsRow wB.heap.size 3 1 (.slice vp M vc) M (((R.take j).filter f).map (Value.int .i64)) := by
                    have h := row_upd HX.out ((Upd.refl [] wq).alloc (.cells #[.int .i64 x] 3)) (by simp)
                    rwa [HLM.out] at h
                  have hsw := HU.out.size
                  refine (wpList_append_src rfl _ _ 42 rfl wB.heap.size 3 i0 _ 1 8 Tryz.underlying42 HII.out HZ0.out HY1.out HY2.out rfl (by decide) _ _ _ rfl hrow _ 1 ([x].map (Value.int .i64)) rfl (.inr ⟨_, _, rfl, fun y u hu => by
                    rw [Addr.add_lit, Nat.zero_add, cell_of (heap_alloc_new wq _)]
                    show (([x].map (Value.int .i64)).toArray)[y]? = some u
                    rw [List.getElem?_toArray]
                    exact hu⟩) rfl (oneI _) (by unfold maxLen; omega) (by omega) (by simp; omega) ?_)
                  intro v' wz hown hgr hob
                  have hown2 : wz.ownsRow wB.heap.size 3 1 v' (((R.take j).filter f).length + 1) (((R.take j).filter f).map (Value.int .i64) ++ [.int .i64 x]) := by rw [HLM.out]; exact hown
                  obtain ⟨hP, hW, hB⟩ := HX.out.push hown2 hgr
                  rw [← HT3.out] at hP
                  have HPU := Lib.hid hP
                  have HU7 := Lib.hid (HU.out.trans' hW (fun q hq hl => by have := (hB q hq).1; omega))
                  clear hP hW hB hown hown2 hgr hrow hsw hob
                  go_wp2_with fail
                  go_roundw
                  case rel => exact ⟨j + 1, by omega, by go_num, HPU.out, HU7.out⟩
                  case measure => simp [intOf]; omega
                | false =>
                  rw [hfx] at HAM
                  have HT3 : Hid ((R.take (j + 1)).filter f = (R.take j).filter f) := by
                    have := HT9.out
                    rwa [if_neg (by rw [hfx]; simp), List.append_nil] at this
                  clear HT9 hfx
                  go_wp2_with fail
                  refine HAM.out.mono ?_
                  rintro e w9 ⟨rfl, rfl⟩
                  go_wp2_with fail
                  go_roundw
                  case rel => exact ⟨j + 1, by omega, by go_num, by rw [HT3.out]; exact HX.out, HU.out⟩
                  case measure => simp [intOf]; omega
            · obtain rfl : j = R.length := by omega
              have hx := HX.out
              rw [List.take_length, ← HDR.out] at hx
              have HRX := Lib.hid (MineI.of hx hgbB)
              have HSQ := Lib.hid (HSB.out.same HU.out)
              have HMQ := Lib.hid (HMB.out.upd HU.out (by simp))
              generalize hL : ((R.take R.length).filter f).length = M at hv
              subst hv
              clear hL
              have HDL : Hid ((docR m s i).length ≤ 36) := by
                show _ ≤ _
                rw [HDR.out]
                exact Nat.le_trans (List.length_filter_le _ _) hrl
              clear hx HX HU HSB HMB HOB
              obtain ⟨x0, x1, x2⟩ := say_box HSQ.out HX3.out
              have HRE := Lib.hid (say_reached (a0 := cp) (n0 := p.cs.length) (c0 := cc) (ma := some ⟨bm, mo, none⟩) (n1 := p.ms.length) (c1 := mc) HSQ.out HP.out HKS3.out i)
              go_wp2_with fail
              refine HRE.out.mono ?_
              rintro e w9 ⟨rfl, hs9, hu9⟩
              have HS9 := Lib.hid hs9
              have HR9 := Lib.hid (HRX.out.upd hu9 (by simp))
              have HM9 := Lib.hid (HMQ.out.upd hu9 (by simp))
              clear x0 x1 x2 hs9 hu9 HRE HSQ HRX HMQ
              cases hr : rseen s m.code.length (i : Int) with
              | true =>
                clear hr
                go_upto_region 29 with fail
                have HSd := Lib.hid (HS9.out.same (Upd.refl [] w9).drew)
                have HAd := Lib.hid (HM9.out.upd (Upd.refl [] w9).drew (by simp))
                have HRd := Lib.hid (HR9.out.upd (Upd.refl [] w9).drew (by simp))
                clear HS9 HM9 HR9
                have hbl := behG_len m s i
                go_region_held3 (fun W => W.cell? ⟨xb, 0, none⟩ = some (.slice cp p.cs.length cc) ∧ W.cell? ⟨xb, 1, none⟩ = some (.slice (some ⟨bm, mo, none⟩) p.ms.length mc) ∧ W.cell? ⟨xb, 2, none⟩ = some (.slice a2 n2 c2'))
                  (first | exact say_box HSI.out HX3.out | exact say_box HSH.out HX3.out | exact say_box HSG.out HX3.out | exact say_box HSF.out HX3.out | exact say_box HSE.out HX3.out | exact say_box HSD.out HX3.out | exact say_box HSC.out HX3.out | exact say_box HSd.out HX3.out)
                  (first
                    | (go_at_call 36; refine (say_locals HSd.out HP.out (by omega) (by omega) i).mono ?_; rintro e wC ⟨k1, u1, hk1, hk1b, rfl, hsC, hmC, huC⟩; have HSC := Lib.hid hsC; have HMC := Lib.hid hmC; have HAC := Lib.hid (HAd.out.upd huC HSd.out.le); have HRC := Lib.hid (HRd.out.upd huC HSd.out.le); clear hsC hmC huC)
                    | (go_at_call 46; refine (say_refs HSD.out HP.out (by omega) (by omega) i hil).mono ?_; rintro e wE ⟨k2, u2, hk2, hk2b, rfl, hsE, hmE, huE⟩; have HSE := Lib.hid hsE; have HME := Lib.hid hmE; have HRE := Lib.hid (HRD.out.upd huE HSD.out.le); clear hsE hmE huE)
                    | (go_at_call 47; refine (say_behind HSF.out HP.out (by omega) (by omega) i).mono ?_; rintro e wG ⟨k3, u3, hk3, hk3b, rfl, hsG, hmG, huG⟩; have HSG := Lib.hid hsG; have HMG := Lib.hid hmG; clear hsG hmG huG)
                    | (go_at_call 48; refine (say_rbehind HSG.out HP.out HM3.out HKS3.out i hil).mono ?_; rintro e wH ⟨u4, rfl, hsH, hmH, huH⟩; have HSH := Lib.hid hsH; have HMH := Lib.hid hmH; have HMG2 := Lib.hid (HMG.out.upd huH (by simp)); clear hsH hmH huH)
                    | (go_at_call 30; refine (same_mine HMG2.out HMH.out (by omega)).mono ?_; rintro e wI ⟨rfl, huI⟩; have HSI := Lib.hid (HSH.out.same huI); clear huI)
                    | (go_at_call 30; refine (same_mine HME.out HRE.out (by have := HDL.out; omega)).mono ?_; rintro e wF ⟨rfl, huF⟩; have HSF := Lib.hid (HSE.out.same huF); clear huF)
                    | (go_at_call 30; refine (same_mine HMC.out HAC.out (by omega)).mono ?_; rintro e wD ⟨rfl, huD⟩; have HSD := Lib.hid (HSC.out.same huD); have HRD := Lib.hid (HRC.out.upd huD (by simp)); clear huD))
                rename_i hheld
                clear hheld
                go_wp2_with fail
                go_roundw
                case rel => exact ⟨i + 1, k3, by omega, by go_num, by omega, by omega, HSI.out⟩
                case measure => simp [intOf]; omega
              | false =>
                have HNIL := Lib.hid (docL_unseen hr)
                have HA0 : Hid (MineI w9 gb (.slice none 0 0) (docL m s i)) := by
                  rw [HNIL.out]
                  exact MineI.nil _ _
                clear hr
                go_upto_region 29 with fail
                have HSd := Lib.hid (HS9.out.same (Upd.refl [] w9).drew)
                have HAd := Lib.hid (HA0.out.upd (Upd.refl [] w9).drew (by simp))
                have HRd := Lib.hid (HR9.out.upd (Upd.refl [] w9).drew (by simp))
                clear HS9 HM9 HR9
                have hbl := behG_len m s i
                go_region_held3 (fun W => W.cell? ⟨xb, 0, none⟩ = some (.slice cp p.cs.length cc) ∧ W.cell? ⟨xb, 1, none⟩ = some (.slice (some ⟨bm, mo, none⟩) p.ms.length mc) ∧ W.cell? ⟨xb, 2, none⟩ = some (.slice a2 n2 c2'))
                  (first | exact say_box HSI.out HX3.out | exact say_box HSH.out HX3.out | exact say_box HSG.out HX3.out | exact say_box HSF.out HX3.out | exact say_box HSE.out HX3.out | exact say_box HSD.out HX3.out | exact say_box HSC.out HX3.out | exact say_box HSd.out HX3.out)
                  (first
                    | (go_at_call 36; refine (say_locals HSd.out HP.out (by omega) (by omega) i).mono ?_; rintro e wC ⟨k1, u1, hk1, hk1b, rfl, hsC, hmC, huC⟩; have HSC := Lib.hid hsC; have HMC := Lib.hid hmC; have HAC := Lib.hid (HAd.out.upd huC HSd.out.le); have HRC := Lib.hid (HRd.out.upd huC HSd.out.le); clear hsC hmC huC)
                    | (go_at_call 46; refine (say_refs HSD.out HP.out (by omega) (by omega) i hil).mono ?_; rintro e wE ⟨k2, u2, hk2, hk2b, rfl, hsE, hmE, huE⟩; have HSE := Lib.hid hsE; have HME := Lib.hid hmE; have HRE := Lib.hid (HRD.out.upd huE HSD.out.le); clear hsE hmE huE)
                    | (go_at_call 47; refine (say_behind HSF.out HP.out (by omega) (by omega) i).mono ?_; rintro e wG ⟨k3, u3, hk3, hk3b, rfl, hsG, hmG, huG⟩; have HSG := Lib.hid hsG; have HMG := Lib.hid hmG; clear hsG hmG huG)
                    | (go_at_call 48; refine (say_rbehind HSG.out HP.out HM3.out HKS3.out i hil).mono ?_; rintro e wH ⟨u4, rfl, hsH, hmH, huH⟩; have HSH := Lib.hid hsH; have HMH := Lib.hid hmH; have HMG2 := Lib.hid (HMG.out.upd huH (by simp)); clear hsH hmH huH)
                    | (go_at_call 30; refine (same_mine HMG2.out HMH.out (by omega)).mono ?_; rintro e wI ⟨rfl, huI⟩; have HSI := Lib.hid (HSH.out.same huI); clear huI)
                    | (go_at_call 30; refine (same_mine HME.out HRE.out (by have := HDL.out; omega)).mono ?_; rintro e wF ⟨rfl, huF⟩; have HSF := Lib.hid (HSE.out.same huF); clear huF)
                    | (go_at_call 30; refine (same_mine HMC.out HAC.out (by omega)).mono ?_; rintro e wD ⟨rfl, huD⟩; have HSD := Lib.hid (HSC.out.same huD); have HRD := Lib.hid (HRC.out.upd huD (by simp)); clear huD))
                rename_i hheld
                clear hheld
                go_wp2_with fail
                go_roundw
                case rel => exact ⟨i + 1, k3, by omega, by go_num, by omega, by omega, HSI.out⟩
                case measure => simp [intOf]; omega
        · obtain rfl : i = m.code.length := by omega
          have HRE := Lib.hid (say_reached (a0 := cp) (n0 := p.cs.length) (c0 := cc) (ma := some ⟨bm, mo, none⟩) (n1 := p.ms.length) (c1 := mc) HSY.out HP.out HKS3.out pc)
          have hdl := docL_len m s pc
          go_wp2_with fail
          refine HRE.out.mono ?_
          rintro e w9 ⟨rfl, hs9, hu9⟩
          have HS9 := Lib.hid hs9
          clear c1 b3 x0 x1 x2 hs9 hu9 HRE HSY
          cases hr : rseen s m.code.length pc with
          | true =>
            have HDO := Lib.hid (say_doc HS9.out hz.2.2.2.2.1 pc)
            go_wp2_with fail
            refine HDO.out.mono ?_
            rintro e wA ⟨u, rfl, hsA, hmA, huA⟩
            have HSA := Lib.hid hsA
            have HAM := Lib.hid (among_mine lo hmA (by omega))
            have HH := Lib.hid (say_has HSA.out HP.out (by omega) (by omega) pc lo)
            rw [hr, Bool.true_and] at HH
            clear hsA hmA huA HDO HS9 hr
            generalize decide (lo ∈ docL m s pc) = bv at HAM HH
            have hne : (bv != bv) = false := by simp
            go_wp2_with fail
            refine HAM.out.mono ?_
            rintro e wC ⟨rfl, rfl⟩
            go_wp2_with fail
            refine HH.out.mono ?_
            rintro e wD ⟨k1, hk1, hk1b, rfl, hsD, huD⟩
            have HID := Lib.hid (say_info hsD)
            have HVD := Lib.hid hsD.upd
            have HZD : Hid (w4.heap.size ≤ wD.heap.size) := by
              show _ ≤ _
              have h1 := HSZ.out
              have h2 := hsD.ge
              omega
            clear hsD huD HH
            go_wp2_with fail
            go_roundw
            case rel => exact ⟨mm + 1, k1, by omega, by go_num, by omega, by omega, HID.out, HVD.out, HZD.out⟩
            case measure => simp [intOf]; omega
          | false =>
            have HH := Lib.hid (say_has HS9.out HP.out (by omega) (by omega) pc lo)
            rw [hr, Bool.false_and] at HH
            clear HS9 hr
            go_wp2_with fail
            refine HH.out.mono ?_
            rintro e wD ⟨k1, hk1, hk1b, rfl, hsD, huD⟩
            have HID := Lib.hid (say_info hsD)
            have HVD := Lib.hid hsD.upd
            have HZD : Hid (w4.heap.size ≤ wD.heap.size) := by
              show _ ≤ _
              have h1 := HSZ.out
              have h2 := hsD.ge
              omega
            clear hsD huD HH
            go_wp2_with fail
            go_roundw
            case rel => exact ⟨mm + 1, k1, by omega, by go_num, by omega, by omega, HID.out, HVD.out, HZD.out⟩
            case measure => simp [intOf]; omega
    · obtain rfl : mm = p.ms.length := by omega
      go_wp2_with fail
      refine (live_of ib p.ms.length wo).mono ?_
      rintro e w5 ⟨rfl, hw5⟩
      have hb5 := heap_alloc_new wo (.cells (mapCells ib p.ms.length 0 0 nilM (.slice none 0 0) (.slice none 0 0)) 147)
      have hu5 := (Upd.refl [] wo).alloc (.cells (mapCells ib p.ms.length 0 0 nilM (.slice none 0 0) (.slice none 0 0)) 147)
      rw [← (show w5 = wo.alloc (.cells (mapCells ib p.ms.length 0 0 nilM (.slice none 0 0) (.slice none 0 0)) 147) from hw5)] at hb5 hu5
      have hwo : w.heap.size ≤ wo.heap.size := (HU30.out.trans HV.out).size
      have HIK := Lib.hid ((InfoK.start HI.out).keep hu5 (by simp))
      have HLO := Lib.hid (locals_out wo wo.heap.size ib p ss7 nn nn 0 w5 HIK.out HOK.out (Nat.le_refl _) (.inl rfl) hb5)
      have HU5 := Lib.hid ((HU30.out.trans HV.out).trans hu5)
      clear hw5 hb5 hu5 c1
      go_wp2_with fail
      refine HLO.out.mono ?_
      rintro e w6 ⟨rfl, hx6, hu6⟩
      have HRO := Lib.hid (lrefs_out wo wo.heap.size ib p ss7 nn nn 1 w6 (HIK.out.keep hu6 (by simp)) HOK.out (Nat.le_refl _) (.inr rfl) hx6)
      have HU6 := Lib.hid (HU5.out.trans' hu6 (fun q hq hl => by rw [List.mem_singleton] at hq; omega))
      clear hx6 hu6 HLO
      go_wp2_with fail
      refine HRO.out.mono ?_
      rintro e w7 ⟨rfl, hx7, hu7⟩
      have HU7 := Lib.hid (HU6.out.trans' hu7 (fun q hq hl => by rw [List.mem_singleton] at hq; omega))
      clear hx7 hu7 HRO
      go_wp2_with fail
      go_ret
      exact ⟨rfl, HU7.out⟩
end Go.Proofs.YtpmfbhoochogoaaGreatDoor
