/- gc.Make, whole. The chapter's examples (law 12). -/
import Derived.Test.YtneeljhjfmcdoaaDoorGcS
/-! gc.Make, whole. -/
namespace Go.Proofs.YtneeljhjfmcdoaaDoor
open Go.RowKit

theorem own_arg {w : World} {B : Nat} {e : TypeId} {v : Value} {xs : List Int} (h : OwnI w B e v xs) : ∃ p c rb, v = .slice p xs.length c ∧ (xs = [] ∨ p = some ⟨rb, 0, none⟩) ∧ (∀ i, i < xs.length → w.cell? ⟨rb, i, none⟩ = some (.int .i64 (xs.getD i 0))) ∧ B ≤ rb ∧ ∀ k, v.ownBlock = some k → B ≤ k := by
  rcases h.form with ⟨h1, h2⟩ | ⟨g, c, h1, h2, h3, h4, h5⟩
  · subst h2
    exact ⟨none, 0, B, h1, .inl rfl, (fun i hi => by cases hi), Nat.le_refl _, (fun k hk => by rw [h1] at hk; cases hk)⟩
  · exact ⟨_, c, g, h1, .inr rfl, h5, h3, (fun k hk => by rw [h1] at hk; simp only [Value.ownBlock, Option.some.injEq] at hk; omega)⟩

/-- A row of one's own is none of the heap's. -/
theorem GcAt.free {w0 w : World} {L : HL} {cv mv : Value} {S : Hp} (h : GcAt w0 w L cv mv S) {B : Nat} {u : Value} {xs : List Int} (ho : OwnI w B 3 u xs) : ∀ k, u.ownBlock = some k → k ∉ L.own := by
  intro k hk hm
  rcases ho.2 with ⟨h1, _⟩ | ⟨g, c, cur, h1, _, h2, _⟩
  · rw [h1] at hk; cases hk
  · rw [h1] at hk
    simp only [Value.ownBlock, Option.some.injEq] at hk
    subst hk
    simp only [HL.own, List.mem_cons, List.not_mem_nil, or_false] at hm
    have t1 := h.hp.hb
    have t2 := h.hp.ar.2.1
    have t3 := h.hp.bg.2.1
    have t4 := h.hp.mr.2.1
    rcases hm with e | e | e | e
    · rw [← e, h2] at t1; injection t1 with t1; injection t1 with _ t _; exact absurd t (by decide)
    · rw [← e, h2] at t2; injection t2 with t2; injection t2 with _ t _; exact absurd t (by decide)
    · rw [← e, h2] at t3; injection t3 with t3; injection t3 with _ t _; exact absurd t (by decide)
    · rw [← e, h2] at t4; injection t4 with t4; injection t4 with _ t _; exact absurd t (by decide)

/-- A row made behind the classes is none of the heap's blocks. -/
theorem GcAt.freeAll {w0 w : World} {L : HL} {cv mv : Value} {S : Hp} (h : GcAt w0 w L cv mv S) {B : Nat} {u : Value} {xs : List Int} (ho : OwnI w B 3 u xs) (hc : L.cb < B) : ∀ k, u.ownBlock = some k → k ∉ L.all := by
  intro k hk hm
  rcases ho.2 with ⟨h1, _⟩ | ⟨g, c, cur, h1, hB, h2, _⟩
  · rw [h1] at hk; cases hk
  · rw [h1] at hk
    simp only [Value.ownBlock, Option.some.injEq] at hk
    subst hk
    simp only [HL.all, List.mem_cons, List.not_mem_nil, or_false] at hm
    have t1 := h.hp.hb
    have t2 := h.hp.ar.1
    have t3 := h.hp.ar.2.1
    have t4 := h.hp.bg.1
    have t5 := h.hp.bg.2.1
    have t6 := h.hp.mr.1
    have t7 := h.hp.mr.2.1
    rcases hm with e | e | e | e | e | e | e | e
    · rw [← e, h2] at t1; injection t1 with t1; injection t1 with _ t _; exact absurd t (by decide)
    · rw [← e, h2] at t2; injection t2 with t1; injection t1 with _ t _; exact absurd t (by decide)
    · rw [← e, h2] at t3; injection t3 with t1; injection t1 with _ t _; exact absurd t (by decide)
    · rw [← e, h2] at t4; injection t4 with t1; injection t1 with _ t _; exact absurd t (by decide)
    · rw [← e, h2] at t5; injection t5 with t1; injection t1 with _ t _; exact absurd t (by decide)
    · rw [← e, h2] at t6; injection t6 with t1; injection t1 with _ t _; exact absurd t (by decide)
    · rw [← e, h2] at t7; injection t7 with t1; injection t1 with _ t _; exact absurd t (by decide)
    · omega

theorem own_arg2 {w : World} {B : Nat} {e : TypeId} {v : Value} {xs : List Int} (h : OwnI w B e v xs) : ∃ p c rb, v = .slice p xs.length c ∧ ((xs = [] ∧ p = none ∧ c = 0) ∨ p = some ⟨rb, 0, none⟩) ∧ (∀ i, i < xs.length → w.cell? ⟨rb, i, none⟩ = some (.int .i64 (xs.getD i 0))) := by
  rcases h.form with ⟨h1, h2⟩ | ⟨g, c, h1, h2, h3, h4, h5⟩
  · subst h2
    exact ⟨none, 0, B, h1, .inl ⟨rfl, rfl, rfl⟩, (fun i hi => by cases hi)⟩
  · exact ⟨_, c, g, h1, .inr rfl, h5⟩

theorem left_sub {L L' : HL} {B E n : Nat} (h : ∀ q ∈ L.own, q < B ∨ E ≤ q) (hn : E ≤ n) (hs : ∀ i ∈ L'.own, i ∈ L.own ∨ n ≤ i) : ∀ q ∈ L'.own, q < B ∨ E ≤ q := fun q hq => by
  rcases hs q hq with h1 | h1
  · exact h q h1
  · exact .inr (by omega)

theorem drewN_add2 (w : World) (a b : Nat) : (w.drewN a).drewN b = w.drewN (a + b) := by
  unfold World.drewN
  simp [Nat.add_assoc]
theorem shape_nums (S : Hp) (rs : List Int) : (S.shape rs).2.length = rs.length := by
  have h : ∀ (l : List Int) (s : List Int × List Int), (l.foldl S.gr.rootStep s).1.length = s.1.length + l.length := by
    intro l
    induction l with
    | nil => intro s; rfl
    | cons a t ih =>
      intro s
      rw [List.foldl_cons, ih]
      unfold Gr.rootStep
      simp only [List.length_append, List.length_cons, List.length_nil]
      omega
  rw [gr_shape]
  show (rs.foldl S.gr.rootStep ([], [])).1.length = _
  rw [h]
  simp

/-- Where an object of these is laid first. -/
def Hp.layAt (S : Hp) (c n : Int) : Nat := if S.words c n ≤ S.y.to - S.y.fr then 0 else S.oldK
def Hp.left (S : Hp) (all : Bool) (M : Mv) (bg : List Nat) : Hp := (S.cx all).after M bg (List.replicate ((S.A.length + 63) / 64) 0)

/-- What Make does: the new object, the roots, is it there, the heap that is left. -/
inductive Made (S : Hp) (c n : Int) (rs : List Int) : Int → List Int → Bool → Hp → Prop
  | none (h : S.words c n < 1) : Made S c n rs 0 rs false S
  | room (h : 1 ≤ S.words c n) (hr : S.room (S.layAt c n) c n = true) : Made S c n rs (S.layR (S.layAt c n) c n) rs true (S.layK (S.layAt c n) c n)
  | minor (h : 1 ≤ S.words c n) (hr : S.room (S.layAt c n) c n = false) (hw : S.words c n ≤ S.y.to - S.y.fr) (sc : Int → Nat → Bool) (M : Mv) (bg : List Nat) (hg : S.asks false rs ≤ S.gives false) (hd : Done S false rs sc M bg) :
      Made S c n rs ((S.left false M bg).layR 0 c n) (rs.map (fwL M.mv)) ((S.left false M bg).room 0 c n) ((S.left false M bg).layK 0 c n)
  | major (h : 1 ≤ S.words c n) (hr : S.room (S.layAt c n) c n = false) (hw : S.y.to - S.y.fr < S.words c n ∨ S.gives false < S.asks false rs) (sc : Int → Nat → Bool) (M : Mv) (bg : List Nat) (hg : S.asks true rs ≤ S.gives true) (hd : Done S true rs sc M bg) (k : Nat)
      (hk : k = if S.words c n ≤ S.y.to - S.y.fr then 0 else (S.left true M bg).oldK) :
      Made S c n rs ((S.left true M bg).layR k c n) (rs.map (fwL M.mv)) ((S.left true M bg).room k c n) ((S.left true M bg).layK k c n)
  | fail (h : 1 ≤ S.words c n) (hr : S.room (S.layAt c n) c n = false) (hw : S.y.to - S.y.fr < S.words c n ∨ S.gives false < S.asks false rs) (hg : S.gives true < S.asks true rs) : Made S c n rs 0 rs false S

structure MakeEnd (w0 : World) (L : HL) (cv mv : Value) (S : Hp) (c n : Int) (rs : List Int) (w : World) (v : Value) (w' : World) (L' : HL) (r : Int) (rs' : List Int) (is : Bool) (S' : Hp) (u : Value) : Prop where
  val : v = .tuple #[.int .i64 r, u, .bool is]
  own : OwnI w' w.heap.size 3 u rs'
  made : Made S c n rs r rs' is S'
  gc : GcAt w0 w' L' cv mv S'
  hb : L'.hb = L.hb
  sub : ∀ i ∈ L'.all, i ∈ L.all ∨ w.heap.size ≤ i
  up : Upd L.own w w'
  cb : L'.cb = L.cb

set_option maxRecDepth 100000 in
set_option maxHeartbeats 4000000 in
theorem make_any (w0 : World) (L : HL) (cv mv : Value) (S : Hp) (c n : Int) (p : Option Addr) (cap rb : Nat) (rs : List Int) (w : World) (h : GcAt w0 w L cv mv S) (hn : rs.length ≤ 100000)
    (hp : (rs = [] ∧ p = none ∧ cap = 0) ∨ p = some ⟨rb, 0, none⟩) (hr : ∀ i, i < rs.length → w.cell? ⟨rb, i, none⟩ = some (.int .i64 (rs.getD i 0))) (hrr : ∀ r ∈ rs, -9223372036854775808 ≤ r ∧ r ≤ 9223372036854775807) :
    Calls Tryd.prog 32 #[.pointer (some ⟨L.hb, 0, none⟩), .int .i64 c, .int .i64 n, .slice p rs.length cap] w fun e w' => ∃ v L' r rs' is S' u, e = .returned v ∧ MakeEnd w0 L cv mv S c n rs w v w' L' r rs' is S' u := by
  have hiv : IntsV w (.slice p rs.length cap) rb rs := ⟨by rcases hp with ⟨h1, h2, h3⟩ | h1; exact .inl ⟨by rw [h1, h2, h3]; rfl, h1⟩; exact .inr ⟨cap, by rw [h1]⟩, hr⟩
  have HC := Lib.hid (clonei_any _ _ _ _ hiv hn)
  have HG := Lib.hid h
  have HRR := Lib.hid hrr
  clear h hrr hiv hr hp
  go_enter Tryd.func32, Tryd.ntmps32
  go_wp2_with fail
  refine HC.out.mono ?_
  rintro e w1 ⟨u, rfl, ho1, hu1⟩
  have HG1 := Lib.hid (HG.out.upd hu1)
  have HO1 := Lib.hid ho1
  have HU1 := Lib.hid hu1
  obtain ⟨pu, cu, rbu, hue, hpu, hcu, hrbu, hob⟩ := own_arg ho1
  subst hue
  have HPU := Lib.hid hpu
  have HCU := Lib.hid hcu
  have HOB := Lib.hid hob
  clear ho1 hu1 hpu hcu hob HC
  go_wp2_with fail
  refine (words_any L cv mv S c n w1 HG1.out.hp).mono ?_
  rintro e w2 ⟨rfl, hu2⟩
  have HG2 := Lib.hid (HG1.out.upd hu2)
  have HU2 := Lib.hid (HU1.out.trans hu2)
  have HO2 := Lib.hid (HO1.out.upd hu2 (by simp))
  have HCU2 : Hid (∀ i, i < rs.length → w2.cell? ⟨rbu, i, none⟩ = some (.int .i64 (rs.getD i 0))) := fun i hi => hu2.cell (HCU.out i hi) (by simp)
  clear hu2 HG1 HO1 HCU HU1
  by_cases hw1 : S.words c n < 1
  · have e1 : decide (S.words c n < 1) = true := decide_eq_true hw1
    go_wp2_with fail
    go_ret3
    exact ⟨_, L, 0, rs, false, S, _, rfl, ⟨rfl, HO2.out, .none hw1, HG2.out, rfl, fun i hi => .inl hi, HU2.out.mono (by simp), rfl⟩⟩
  · have e1 : decide (S.words c n < 1) = false := decide_eq_false hw1
    have hw1' : 1 ≤ S.words c n := by omega
    go_wp2_with fail
    refine (size_any L cv mv S w2 HG2.out.hp).mono ?_
    rintro e w3' ⟨rfl, n3, hw3⟩
    have hu3 := (Upd.refl [] w2).drewN n3
    rw [← hw3] at hu3
    have HG3 := Lib.hid (HG2.out.upd hu3)
    have HU3 := Lib.hid ((HU2.out.trans hu3).mono (T := L.own) (by simp))
    have HO3 := Lib.hid (HO2.out.upd hu3 (by simp))
    have HCU3 : Hid (∀ i, i < rs.length → w3'.cell? ⟨rbu, i, none⟩ = some (.int .i64 (rs.getD i 0))) := fun i hi => hu3.cell (HCU2.out i hi) (by simp)
    have HRB : Hid (rbu ∉ L.all) := fun hm => by have := HG.out.hi _ hm; omega
    obtain ⟨w3, rfl⟩ : ∃ w3 : World, w3 = w3' := ⟨_, rfl⟩
    clear hw3 hu3 HG2 HU2 HO2 HCU2 HOB
    by_cases hw : S.words c n ≤ S.y.to - S.y.fr
    · have e2 : decide (S.words c n ≤ S.y.to - S.y.fr) = true := decide_eq_true hw
      have HLA : Hid (S.layAt c n = 0) := by show _ = _; unfold Hp.layAt; rw [if_pos hw]
      have hy := gyoung HG3.out c n
      cases hrm : S.room 0 c n with
      | true =>
        rw [hrm] at hy
        have HY := Lib.hid hy
        clear hy
        go_wp2_with fail
        refine HY.out.mono ?_
        rintro e w4 ⟨rfl, hg4, hu4⟩
        have HG4 := Lib.hid hg4
        have HU4 := Lib.hid hu4
        clear hg4 hu4 HY
        go_wp2_with fail
        go_ret3
        have hm := Made.room (S := S) (c := c) (n := n) (rs := rs) hw1' (by rw [HLA.out]; exact hrm)
        rw [HLA.out] at hm
        exact ⟨_, L, _, rs, true, _, _, rfl, ⟨rfl, HO3.out.upd HU4.out (HG3.out.free HO3.out), hm, HG4.out, rfl, fun i hi => .inl hi, HU3.out.trans HU4.out, rfl⟩⟩
      | false =>
        rw [hrm, show S.layK 0 c n = S by unfold Hp.layK; rw [if_neg (by rw [hrm]; simp)]] at hy
        have HY := Lib.hid hy
        clear hy
        go_wp2_with fail
        refine HY.out.mono ?_
        rintro e w4 ⟨rfl, hg4, hu4⟩
        have HG4 := Lib.hid hg4
        have HU4 := Lib.hid (HU3.out.trans hu4)
        have HO4 := Lib.hid (HO3.out.upd hu4 (HG3.out.free HO3.out))
        have HCU4 : Hid (∀ i, i < rs.length → w4.cell? ⟨rbu, i, none⟩ = some (.int .i64 (rs.getD i 0))) := fun i hi => hu4.cell (HCU3.out i hi) (fun hm => HRB.out (HL.sub hm))
        clear hg4 hu4 HY HCU3 HO3 HU3
        go_wp2_with fail
        refine (gminor HG4.out pu cu rbu rs hn HPU.out HCU4.out HRR.out HRB.out).mono ?_
        rintro e w5 ⟨v5, rfl, hend, hu5⟩
        have HU5 := Lib.hid (HU4.out.trans hu5)
        have HO5 := Lib.hid (HO4.out.upd hu5 (HG4.out.free HO4.out))
        have HCU5 : Hid (∀ i, i < rs.length → w5.cell? ⟨rbu, i, none⟩ = some (.int .i64 (rs.getD i 0))) := fun i hi => hu5.cell (HCU4.out i hi) (fun hm => HRB.out (HL.sub hm))
        clear hu5 HCU4
        rcases hend with ⟨hlt0, rfl, hg5⟩ | ⟨hle, sc, M, bg, L', u7, hd, rfl, ho7, hg7, hb7, hs7, hs7o⟩
        · have HG5 := Lib.hid hg5
          clear hg5
          go_wp2_with fail
          refine (gmajor HG5.out pu cu rbu rs hn HPU.out HCU5.out HRR.out HRB.out).mono ?_
          rintro e w7 ⟨v7, rfl, hend, hu7⟩
          have HU7 := Lib.hid (HU5.out.trans hu7)
          have HO7 := Lib.hid (HO5.out.upd hu7 (HG5.out.free HO5.out))
          clear hu7
          rcases hend with ⟨hlt, rfl, hg7⟩ | ⟨hle, sc, M, bg, L', u7, hd, rfl, ho7, hg7, hb7, hs7, hs7o⟩
          · have hy := gyoung hg7 c n
            rw [hrm, show S.layK 0 c n = S by unfold Hp.layK; rw [if_neg (by rw [hrm]; simp)], show S.layR 0 c n = 0 by unfold Hp.layR; rw [if_neg (by rw [hrm]; simp)]] at hy
            have HY := Lib.hid hy
            have HG7 := Lib.hid hg7
            clear hy hg7
            go_wp2_with fail
            refine HY.out.mono ?_
            rintro e w8 ⟨rfl, hg8, hu8⟩
            have HG8 := Lib.hid hg8
            have HU8 := Lib.hid hu8
            clear hg8 hu8 HY
            go_wp2_with fail
            go_ret3
            exact ⟨_, L, _, rs, false, _, _, rfl, ⟨rfl, HO7.out.upd HU8.out (HG7.out.free HO7.out), .fail hw1' (by rw [HLA.out]; exact hrm) (.inr hlt0) hlt, HG8.out, rfl, fun i hi => .inl hi, HU7.out.trans HU8.out, rfl⟩⟩
          · have HG7 := Lib.hid hg7
            have HW7 := Lib.hid ho7
            have HU37 : Hid (w.heap.size ≤ w5.heap.size) := HU5.out.size
            obtain ⟨p7, c7, rfl⟩ := ownI_shape ho7
            rw [List.length_map] at HW7
            have hy := gyoung hg7 c n
            rw [hb7] at hy
            have HY := Lib.hid hy
            have HSUB := Lib.hid hs7
            have HSUO := Lib.hid hs7o
            have HB7 := Lib.hid hb7
            have HD := Lib.hid hd
            clear hy hg7 ho7 hs7 hs7o hb7 hd
            rw [List.length_map]
            go_wp2_with fail
            refine HY.out.mono ?_
            rintro e w8 ⟨rfl, hg8, hu8⟩
            have HG8 := Lib.hid hg8
            have HU8 := Lib.hid hu8
            clear hg8 hu8 HY
            go_wp2_with fail
            go_ret3
            exact ⟨_, L', _, _, _, _, _, rfl, ⟨rfl, row_base (HW7.out.upd HU8.out (HG7.out.free HW7.out)) HU37.out, .major hw1' (by rw [HLA.out]; exact hrm) (.inr hlt0) sc M bg hle HD.out _ (by rw [if_pos hw]), HG8.out, HB7.out, fun i hi => (HSUB.out i hi).imp id (fun h => by have := HU37.out; omega), HU7.out.trans' HU8.out (fun i hi hlt => (HSUO.out.1 i hi).resolve_right (by have := HU37.out; omega)), HSUO.out.2⟩⟩
        · have HG7 := Lib.hid hg7
          have HW7 := Lib.hid ho7
          have HU37 : Hid (w.heap.size ≤ w4.heap.size) := HU4.out.size
          obtain ⟨p7, c7, rfl⟩ := ownI_shape ho7
          rw [List.length_map] at HW7
          have hy := gyoung hg7 c n
          rw [hb7] at hy
          have HY := Lib.hid hy
          have HSUB := Lib.hid hs7
          have HSUO := Lib.hid hs7o
          have HB7 := Lib.hid hb7
          have HD := Lib.hid hd
          clear hy hg7 ho7 hs7 hs7o hb7 hd
          rw [List.length_map]
          go_wp2_with fail
          refine HY.out.mono ?_
          rintro e w8 ⟨rfl, hg8, hu8⟩
          have HG8 := Lib.hid hg8
          have HU8 := Lib.hid hu8
          clear hg8 hu8 HY
          go_wp2_with fail
          go_ret3
          exact ⟨_, L', _, _, _, _, _, rfl, ⟨rfl, row_base (HW7.out.upd HU8.out (HG7.out.free HW7.out)) HU37.out, .minor hw1' (by rw [HLA.out]; exact hrm) hw sc M bg hle HD.out, HG8.out, HB7.out, fun i hi => (HSUB.out i hi).imp id (fun h => by have := HU37.out; omega), HU5.out.trans' HU8.out (fun i hi hlt => (HSUO.out.1 i hi).resolve_right (by have := HU37.out; omega)), HSUO.out.2⟩⟩
    · have e2 : decide (S.words c n ≤ S.y.to - S.y.fr) = false := decide_eq_false hw
      have HLA : Hid (S.layAt c n = S.oldK) := by show _ = _; unfold Hp.layAt; rw [if_neg hw]
      have hy := gold HG3.out c n
      cases hrm : S.room S.oldK c n with
      | true =>
        rw [hrm] at hy
        have HY := Lib.hid hy
        clear hy
        go_wp2_with fail
        refine HY.out.mono ?_
        rintro e w4 ⟨rfl, hg4, hu4⟩
        have HG4 := Lib.hid hg4
        have HU4 := Lib.hid hu4
        clear hg4 hu4 HY
        go_wp2_with fail
        go_ret3
        have hm := Made.room (S := S) (c := c) (n := n) (rs := rs) hw1' (by rw [HLA.out]; exact hrm)
        rw [HLA.out] at hm
        exact ⟨_, L, _, rs, true, _, _, rfl, ⟨rfl, HO3.out.upd HU4.out (HG3.out.free HO3.out), hm, HG4.out, rfl, fun i hi => .inl hi, HU3.out.trans HU4.out, rfl⟩⟩
      | false =>
        rw [hrm, show S.layK S.oldK c n = S by unfold Hp.layK; rw [if_neg (by rw [hrm]; simp)]] at hy
        have HY := Lib.hid hy
        clear hy
        go_wp2_with fail
        refine HY.out.mono ?_
        rintro e w4 ⟨rfl, hg4, hu4⟩
        have HG4 := Lib.hid hg4
        have HU4 := Lib.hid (HU3.out.trans hu4)
        have HO4 := Lib.hid (HO3.out.upd hu4 (HG3.out.free HO3.out))
        have HCU4 : Hid (∀ i, i < rs.length → w4.cell? ⟨rbu, i, none⟩ = some (.int .i64 (rs.getD i 0))) := fun i hi => hu4.cell (HCU3.out i hi) (fun hm => HRB.out (HL.sub hm))
        clear hg4 hu4 HY HCU3 HO3 HU3
        go_wp2_with fail
        refine (gmajor HG4.out pu cu rbu rs hn HPU.out HCU4.out HRR.out HRB.out).mono ?_
        rintro e w7 ⟨v7, rfl, hend, hu7⟩
        have HU7 := Lib.hid (HU4.out.trans hu7)
        have HO7 := Lib.hid (HO4.out.upd hu7 (HG4.out.free HO4.out))
        clear hu7
        rcases hend with ⟨hlt, rfl, hg7⟩ | ⟨hle, sc, M, bg, L', u7, hd, rfl, ho7, hg7, hb7, hs7, hs7o⟩
        · have hy := gold hg7 c n
          rw [hrm, show S.layK S.oldK c n = S by unfold Hp.layK; rw [if_neg (by rw [hrm]; simp)], show S.layR S.oldK c n = 0 by unfold Hp.layR; rw [if_neg (by rw [hrm]; simp)]] at hy
          have HY := Lib.hid hy
          have HG7 := Lib.hid hg7
          clear hy hg7
          go_wp2_with fail
          refine HY.out.mono ?_
          rintro e w8 ⟨rfl, hg8, hu8⟩
          have HG8 := Lib.hid hg8
          have HU8 := Lib.hid hu8
          clear hg8 hu8 HY
          go_wp2_with fail
          go_ret3
          exact ⟨_, L, _, rs, false, _, _, rfl, ⟨rfl, HO7.out.upd HU8.out (HG7.out.free HO7.out), .fail hw1' (by rw [HLA.out]; exact hrm) (.inl (by omega)) hlt, HG8.out, rfl, fun i hi => .inl hi, HU7.out.trans HU8.out, rfl⟩⟩
        · have HG7 := Lib.hid hg7
          have HW7 := Lib.hid ho7
          have HU37 : Hid (w.heap.size ≤ w4.heap.size) := HU4.out.size
          obtain ⟨p7, c7, rfl⟩ := ownI_shape ho7
          rw [List.length_map] at HW7
          have hy := gold hg7 c n
          rw [hb7] at hy
          have HY := Lib.hid hy
          have HSUB := Lib.hid hs7
          have HSUO := Lib.hid hs7o
          have HB7 := Lib.hid hb7
          have HD := Lib.hid hd
          clear hy hg7 ho7 hs7 hs7o hb7 hd
          rw [List.length_map]
          go_wp2_with fail
          refine HY.out.mono ?_
          rintro e w8 ⟨rfl, hg8, hu8⟩
          have HG8 := Lib.hid hg8
          have HU8 := Lib.hid hu8
          clear hg8 hu8 HY
          go_wp2_with fail
          go_ret3
          exact ⟨_, L', _, _, _, _, _, rfl, ⟨rfl, row_base (HW7.out.upd HU8.out (HG7.out.free HW7.out)) HU37.out, .major hw1' (by rw [HLA.out]; exact hrm) (.inl (by omega)) sc M bg hle HD.out _ (by rw [if_neg (by omega)]; rfl), HG8.out, HB7.out, fun i hi => (HSUB.out i hi).imp id (fun h => by have := HU37.out; omega), HU7.out.trans' HU8.out (fun i hi hlt => (HSUO.out.1 i hi).resolve_right (by have := HU37.out; omega)), HSUO.out.2⟩⟩
end Go.Proofs.YtneeljhjfmcdoaaDoor

/-! The chapter's examples (law 12). -/
namespace Go.Proofs.YtneeljhjfmcdoaaDoor
open Go.RowKit

def R0 : Hp := Hp.new [IR] 200 20
def R1 : Hp := R0.layK 0 0 0
def R2 : Hp := R1.layK 0 0 0
def R3 : Hp := R2.put 1 1 5
def R4 : Hp := R3.put 5 1 1
theorem r0_lay : R0.layR 0 0 0 = 1 ∧ R0.room 0 0 0 = true := by decide +kernel
theorem r1_lay : R1.layR 0 0 0 = 5 ∧ R1.room 0 0 0 = true := by decide +kernel
theorem r2_may : R2.mayRaw 1 1 5 = true := by decide +kernel
theorem r3_may : R3.mayRaw 5 1 1 = true := by decide +kernel
theorem r4_is : R4.is 1 = true := by decide +kernel
theorem r4_room : R4.asks false [1] = 8 ∧ R4.gives false = 90 ∧ R4.y.to - R4.y.fr = 20 := by decide +kernel
theorem r4_out : (R4.outN 2 ([], (R4.roots [1]).2)).1.length = 2 ∧ (R4.outN 2 ([], (R4.roots [1]).2)).2.length = 2 := by decide +kernel
set_option maxRecDepth 100000 in
theorem r4_shape : (R4.shape [1]).1.length = 2 := by
  have hl : R4.A.length = 200 := by decide +kernel
  have h : R4.outN (R4.A.length + 1) ([], (R4.roots [1]).2) = R4.outN 2 ([], (R4.roots [1]).2) := outN_stay R4 _ 2 _ (by rw [r4_out.1, r4_out.2]; omega) (by omega)
  unfold Hp.shape
  rw [h]
  exact r4_out.1

set_option maxRecDepth 100000 in
set_option maxHeartbeats 2000000 in
theorem first12_any (w : World) (hT : TzAt w) : Calls Tryd.prog 9 #[] w fun e w' => e = .returned (.bool true) ∧ Upd [] w w' := by
  have HRA := Lib.hid (ring_any w hT)
  have HT := Lib.hid hT
  clear hT
  go_enter Tryd.func9, Tryd.ntmps9
  go_wp2_with fail
  refine HRA.out.mono ?_
  rintro e w1 ⟨L, cv, mv, pa, pm, rfl, hn⟩
  have HG := Lib.hid (hn.gc HT.out)
  clear hn
  go_wp2_with fail
  have HG1 := Lib.hid (HG.out.upd ((Upd.refl [] w1).alloc (.cells #[.slice pa 1 1, .slice pm 1 1] 28)))
  generalize w1.alloc (.cells #[.slice pa 1 1, .slice pm 1 1] 28) = w2 at HG1 ⊢
  have HC := Lib.hid (gyoung HG1.out 0 0)
  rw [show (Hp.new [IR] 200 20).layR 0 0 0 = 1 from r0_lay.1, show (Hp.new [IR] 200 20).room 0 0 0 = true from r0_lay.2] at HC
  refine HC.out.mono ?_
  rintro e w3 ⟨rfl, hg, _⟩
  have HG2 : Hid (GcAt w w3 L cv mv R1) := hg
  clear hg HG HG1 HC HRA
  go_wp2_with fail
  have HC := Lib.hid (gyoung HG2.out 0 0)
  rw [r1_lay.1, r1_lay.2] at HC
  refine HC.out.mono ?_
  rintro e w4 ⟨rfl, hg, _⟩
  have HG3 : Hid (GcAt w w4 L cv mv R2) := hg
  clear hg HG2 HC
  go_wp2_with fail
  have HC := Lib.hid (gput HG3.out 1 1 5 (by omega) (by omega))
  rw [r2_may, if_pos rfl] at HC
  refine HC.out.mono ?_
  rintro e w5 ⟨rfl, hg, _⟩
  have HG4 : Hid (GcAt w w5 L cv mv R3) := hg
  clear hg HG3 HC
  go_wp2_with fail
  have HC := Lib.hid (gput HG4.out 5 1 1 (by omega) (by omega))
  rw [r3_may, if_pos rfl] at HC
  refine HC.out.mono ?_
  rintro e w6 ⟨rfl, hg, _⟩
  have HG5 : Hid (GcAt w w6 L cv mv R4) := hg
  clear hg HG4 HC
  go_wp2_with fail
  have HG6 := Lib.hid (HG5.out.upd ((Upd.refl [] w6).alloc (.cells #[.int .i64 1] 3)))
  have hcn := cell_of (heap_alloc_new w6 (.cells #[.int .i64 1] 3))
  have HC := Lib.hid (gminor HG6.out (some ⟨w6.heap.size, 0, none⟩) 1 w6.heap.size [1] (by simp) (.inr rfl) (fun i hi => by
    obtain rfl : i = 0 := by simpa using hi
    rw [hcn]; rfl) (fun r hr => by simp at hr; omega) (fun hm => by have := HG5.out.hi _ hm; omega))
  clear hcn
  refine HC.out.mono ?_
  rintro e w7 ⟨v, rfl, hend, _⟩
  have hsz6 : w.heap.size ≤ w6.heap.size := HG5.out.up.size
  rcases hend with ⟨h1, _⟩ | ⟨h1, sc, M, bg, L', u, hd, rfl, ho, hg, hb, _⟩
  · have := r4_room; omega
  · have HIY := Lib.hid (after_young (mr := List.replicate ((R4.A.length + 63) / 64) 0) hd.fin)
    have HY := Lib.hid (after_y (mr := List.replicate ((R4.A.length + 63) / 64) 0) hd.fin)
    have HSH := Lib.hid (done_shape (mr := List.replicate ((R4.A.length + 63) / 64) 0) HG5.out.inv hd (fun r hr => by simp at hr; subst hr; exact .inr r4_is))
    have HRT := Lib.hid (done_root (mr := List.replicate ((R4.A.length + 63) / 64) 0) hd (fun r hr => by simp at hr; subst hr; exact .inr r4_is))
    clear hd
    generalize (R4.cx false).after M bg (List.replicate ((R4.A.length + 63) / 64) 0) = S at *
    simp only [List.map_cons, List.map_nil] at ho HSH HRT
    generalize fwL M.mv 1 = r at *
    have HB := Lib.hid hb
    clear hb
    have hrl : r ≤ 9223372036854775807 := by
      rcases HRT.out r (by simp) with e | e
      · omega
      · have := hg.hp.ok.le e
        have := hg.hp.ok.len
        have := hg.hp.ok.sp0 0
        omega
    have HG7 := Lib.hid hg
    have HO := Lib.hid ho
    rcases HO.out.form with ⟨_, h2⟩ | ⟨g, c, rfl, _, _, hgl, hcell⟩
    · cases h2
    · have hc0 := hcell 0 (by simp)
      simp only [List.getD_cons_zero] at hc0
      have HIYC := Lib.hid (inYoung_any L' cv mv S r w7 hg.hp hrl)
      rw [HIY.out, HB.out] at HIYC
      clear ho hg hcell HC HG6 HG5
      go_wp2_with fail
      refine HIYC.out.mono ?_
      rintro e w8 ⟨rfl, rfl⟩
      go_wp2_with fail
      have HRC := Lib.hid (hroom_any L' cv mv S _ HG7.out.hp)
      rw [HB.out] at HRC
      refine HRC.out.mono ?_
      rintro e w8 ⟨rfl, n8, rfl⟩
      have HG8 := Lib.hid (HG7.out.upd ((Upd.refl [] w7).drewN n8))
      have hroom : S.y.to - S.y.top = 20 := by rw [HY.out]; exact r4_room.2.2
      rw [hroom]
      have hc8 := (((Upd.refl [] w7).drewN n8)).cell hc0 (by simp)
      have hrr : ∀ q ∈ [r], q = 0 ∨ S.is q = true := HRT.out
      have HSC := Lib.hid (gshape HG8.out (some ⟨g, 0, none⟩) c g [r] (by simp) (.inr rfl) (fun i hi => by
        obtain rfl : i = 0 := by simpa using hi
        exact hc8) (fun q hq => by
          rcases hrr q hq with e | e
          · omega
          · have := HG8.out.hp.ok.le e
            have := HG8.out.hp.ok.len
            omega))
      rw [HB.out] at HSC
      clear HIYC hc0 HRC
      go_wp2_with fail
      refine HSC.out.mono ?_
      rintro e w9 ⟨uv, av, ps, ov, od, rfl, hout, hps, hu9⟩
      have hps2 : (ps.map OP.o).length = 2 := (congrArg List.length (hps.trans (congrArg Prod.fst HSH.out))).trans r4_shape
      obtain ⟨up, ucap, rfl, _⟩ := hout.objsV rfl
      obtain ⟨ab, hai⟩ := hout.nums
      obtain ⟨ap, ac, rfl⟩ := hai.form
      rw [hps2]
      have HG9 := Lib.hid (HG8.out.upd hu9)
      have hc9 := hu9.cell hc8 (by simp)
      have HVC := Lib.hid (gverify HG9.out (some ⟨g, 0, none⟩) c g [r] (by simp) (.inr rfl) (fun i hi => by
        obtain rfl : i = 0 := by simpa using hi
        exact hc9) hrr)
      rw [HB.out] at HVC
      clear hout hps hu9 hps2 hai HSC hc8 hc9
      go_wp2_with fail
      refine HVC.out.mono ?_
      rintro e w10 ⟨rfl, hu10⟩
      have HU := Lib.hid (HG9.out.up.trans hu10)
      clear hu10
      go_wp2_with fail
      go_ret
      exact ⟨rfl, HU.out⟩
end Go.Proofs.YtneeljhjfmcdoaaDoor
