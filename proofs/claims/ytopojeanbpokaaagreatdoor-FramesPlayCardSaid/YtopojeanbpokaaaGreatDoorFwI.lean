/- overdriveref7.Info.Words; overdriveref.Ints: a copy. A []Do of law 13 that comes in, opened. FramesPlay: the frame of the law's walk, and what it is told. FramesPlay: small lemmas of the walk. FramesPlay: the references are turned (plain). FramesPlay: Push, whatever comes of it. -/
import Derived.Test.YtopojeanbpokaaaGreatDoorWInfo
import Derived.Test.YtopojeanbpokaaaGreatDoorREff
import Derived.Test.YtopojeanbpokaaaGreatDoorFrA
import Derived.Deep.RegionHeld3
import Derived.Test.YtopojeanbpokaaaGreatDoorOpenP
import Derived.Test.YtopojeanbpokaaaGreatDoorFwA
import Derived.Test.YtopojeanbpokaaaGreatDoorFrO
import Derived.Test.YtopojeanbpokaaaGreatDoorSeeIs
import Derived.Deep.CutBlock
/-! overdriveref7.Info.Words; overdriveref.Ints: a copy. -/
/-! overdriveref7.Info.Words; overdriveref.Ints: a copy. -/
namespace Go.Proofs.YtopojeanbpokaaaGreatDoor
open Go.RowKit

set_option maxRecDepth 100000 in
set_option maxHeartbeats 4000000 in
theorem rwords_any (p : Prg) (ss : List Lk) (a0 ma : Option Addr) (n0 c0 mc : Nat) (v2 : Value) (k : Nat) (w : World) (h : LksT w v2 p.ms ss) (hm : MethsAt w (.slice ma p.ms.length mc) p.ms) (hl : ss.length = p.ms.length) (hk : k < p.ms.length)
    (hz1 : (p.ms.getD k default).params.size ≤ 1000) (hz2 : (p.ms.getD k default).locals.size ≤ 1000) (hmo : (ss.getD k default).most ≤ 1000) :
    Calls Tryz.prog 11 #[.agg #[.slice a0 n0 c0, .slice ma p.ms.length mc, v2], .int .i64 k] w fun e w' => e = .returned (.int .i64 (4 + ((p.ms.getD k default).params.size + (p.ms.getD k default).locals.size : Nat) + (ss.getD k default).most)) ∧ Upd [] w w' := by
  obtain ⟨a, cap, rfl, hcap, hx⟩ := h
  obtain ⟨b, o, gs, gb, rfl, x0, x1, x2, hlk⟩ := hx k (by omega)
  obtain ⟨_, _, hme, _, hmm, hmx⟩ := hm
  injection hme with hme1 _ hme2
  subst hme1 hme2
  obtain ⟨bm, mo, rfl, _, q0, q1, q2, kv, q3, hcode⟩ := hmx k hk
  obtain ⟨ka, kc, rfl, _⟩ := hcode
  clear hmx hx hlk
  unfold maxLen at hmm hcap
  have hu := (Upd.refl [] w).alloc (.cells #[.slice a0 n0 c0, .slice (some ⟨bm, mo, none⟩) p.ms.length mc, .slice (some ⟨b, o, none⟩) ss.length cap] 30)
  have hb := heap_alloc_new w (.cells #[.slice a0 n0 c0, .slice (some ⟨bm, mo, none⟩) p.ms.length mc, .slice (some ⟨b, o, none⟩) ss.length cap] 30)
  have HU := Lib.hid hu
  have y1 : (w.alloc (.cells #[.slice a0 n0 c0, .slice (some ⟨bm, mo, none⟩) p.ms.length mc, .slice (some ⟨b, o, none⟩) ss.length cap] 30)).cell? ⟨w.heap.size, 1, none⟩ = some (.slice (some ⟨bm, mo, none⟩) p.ms.length mc) := by rw [cell_of hb]; rfl
  have y2 : (w.alloc (.cells #[.slice a0 n0 c0, .slice (some ⟨bm, mo, none⟩) p.ms.length mc, .slice (some ⟨b, o, none⟩) ss.length cap] 30)).cell? ⟨w.heap.size, 2, none⟩ = some (.slice (some ⟨b, o, none⟩) ss.length cap) := by rw [cell_of hb]; rfl
  have q0 := hu.cell q0 (by simp)
  have q1 := hu.cell q1 (by simp)
  have q2 := hu.cell q2 (by simp)
  have q3 := hu.cell q3 (by simp)
  have x2 := hu.cell x2 (by simp)
  clear hb hu x0 x1
  generalize hmg : p.ms.getD k default = m at q0 q1 q2 q3 hz1 hz2 ⊢
  generalize hsg : ss.getD k default = s at x2 hmo ⊢
  clear hmg hsg
  rw [hl] at y1 y2 q0 q1 q2 q3 x2 HU ⊢
  go_enter Tryz.func11, Tryz.ntmps11
  go_upto_region 1 with fail
  generalize w.alloc (.cells #[.slice a0 n0 c0, .slice (some ⟨bm, mo, none⟩) p.ms.length mc, .slice (some ⟨b, o, none⟩) p.ms.length cap] 30) = w2 at HU y1 y2 q0 q1 q2 q3 x2 ⊢
  generalize w.heap.size = B at y1 y2 ⊢
  have d0 : decide ((k : Int) < 0) = false := decide_eq_false (by omega)
  have d1 : decide ((p.ms.length : Int) ≤ k) = false := decide_eq_false (by omega)
  have HK := Lib.hid (rkinds_any m (.slice ka m.code.length kc) w2.drew (by omega) (by omega))
  have hks := kinds_size m
  have hks2 : (bs (kindsL m)).size ≤ 2000 := by omega
  have HKS := Lib.hid hks
  clear hks
  generalize bs (kindsL m) = ks at HK hks2 HKS
  have hF0 : w2.cell? ⟨B, 1, none⟩ = some (.slice (some ⟨bm, mo, none⟩) p.ms.length mc) ∧ w2.cell? ⟨B, 2, none⟩ = some (.slice (some ⟨b, o, none⟩) p.ms.length cap) ∧ w2.cell? ⟨bm, mo + k * 4, none⟩ = some (.string m.params) ∧ w2.cell? ⟨bm, mo + k * 4 + 1, none⟩ = some (.string m.locals) ∧ w2.cell? ⟨bm, mo + k * 4 + 2, none⟩ = some (.string m.ret) ∧ w2.cell? ⟨bm, mo + k * 4 + 3, none⟩ = some (.slice ka m.code.length kc) ∧ w2.cell? ⟨b, o + k * 3 + 2, none⟩ = some (.int .i64 s.most) := ⟨y1, y2, q0, q1, q2, q3, x2⟩
  have hd := (Upd.refl [] w2).drew
  have hF1 : w2.drew.cell? ⟨B, 1, none⟩ = some (.slice (some ⟨bm, mo, none⟩) p.ms.length mc) ∧ w2.drew.cell? ⟨B, 2, none⟩ = some (.slice (some ⟨b, o, none⟩) p.ms.length cap) ∧ w2.drew.cell? ⟨bm, mo + k * 4, none⟩ = some (.string m.params) ∧ w2.drew.cell? ⟨bm, mo + k * 4 + 1, none⟩ = some (.string m.locals) ∧ w2.drew.cell? ⟨bm, mo + k * 4 + 2, none⟩ = some (.string m.ret) ∧ w2.drew.cell? ⟨bm, mo + k * 4 + 3, none⟩ = some (.slice ka m.code.length kc) ∧ w2.drew.cell? ⟨b, o + k * 3 + 2, none⟩ = some (.int .i64 s.most) := hF0
  go_wp2_with fail
  go_region_held3 (fun w' => w'.cell? ⟨B, 1, none⟩ = some (.slice (some ⟨bm, mo, none⟩) p.ms.length mc) ∧ w'.cell? ⟨B, 2, none⟩ = some (.slice (some ⟨b, o, none⟩) p.ms.length cap) ∧ w'.cell? ⟨bm, mo + k * 4, none⟩ = some (.string m.params) ∧ w'.cell? ⟨bm, mo + k * 4 + 1, none⟩ = some (.string m.locals) ∧ w'.cell? ⟨bm, mo + k * 4 + 2, none⟩ = some (.string m.ret) ∧ w'.cell? ⟨bm, mo + k * 4 + 3, none⟩ = some (.slice ka m.code.length kc) ∧ w'.cell? ⟨b, o + k * 3 + 2, none⟩ = some (.int .i64 s.most))
    (first | exact hk0 | exact hF1 | exact hF0)
    ((go_at_call 12; refine HK.out.mono ?_; rintro e w3 ⟨rfl, hu3⟩; have hk0 := (⟨hu3.cell hF1.1 (by simp), hu3.cell hF1.2.1 (by simp), hu3.cell hF1.2.2.1 (by simp), hu3.cell hF1.2.2.2.1 (by simp), hu3.cell hF1.2.2.2.2.1 (by simp), hu3.cell hF1.2.2.2.2.2.1 (by simp), hu3.cell hF1.2.2.2.2.2.2 (by simp)⟩ : _ ∧ _ ∧ _ ∧ _ ∧ _ ∧ _ ∧ _)))
  have hu4 := hd.trans hu3
  clear hk0 hF0 hF1
  go_wp2_with fail
  go_ret
  exact ⟨by
    rw [← HKS.out]
    show Ending.returned (.int .i64 (IntKind.i64.wrap (IntKind.i64.wrap (4 + (ks.size : Int)) + (s.most : Int)))) = _
    rw [IntWalk.i64_in (4 + (ks.size : Int)) (by omega), IntWalk.i64_in _ (by omega)], HU.out.trans hu4⟩

set_option maxRecDepth 100000 in
set_option maxHeartbeats 4000000 in
theorem rints_any (p : Option Addr) (cap rb : Nat) (xs : List Int) (w : World) (hn : xs.length ≤ 100000) (hp : xs = [] ∨ p = some ⟨rb, 0, none⟩) (hr : ∀ i, i < xs.length → w.cell? ⟨rb, i, none⟩ = some (.int .i64 (xs.getD i 0))) :
    Calls Tryz.prog 21 #[.slice p xs.length cap] w fun e w' => ∃ u, e = .returned u ∧ OwnI w' w.heap.size 3 u xs ∧ Upd [] w w' := by
  obtain ⟨i0, hi, hz0, hz1, hz2⟩ := info_parts Tryz.infoInt
  have HI := Lib.hid hi
  have HZ0 := Lib.hid hz0
  have HZ1 := Lib.hid hz1
  have HZ2 := Lib.hid hz2
  have HP := Lib.hid hp
  have HR := Lib.hid hr
  have hmk := make_ints w xs.length xs.length rfl (by omega)
  have HU := Lib.hid ((Upd.refl [] w).alloc (.cells (icells (List.replicate xs.length 0)) 3))
  have hO : OwnI (w.alloc (.cells (icells (List.replicate xs.length 0)) 3)) w.heap.size 3 (.slice (some ⟨w.heap.size, 0, none⟩) 0 xs.length) [] := made_row w w.heap.size xs.length (Nat.le_refl _) (by omega)
  have HO := Lib.hid hO
  clear hi hz0 hz1 hz2 hp hr hO
  go_enter Tryz.func21, Tryz.ntmps21
  go_wp2_with fail
  generalize w.alloc (.cells (icells (List.replicate xs.length 0)) 3) = w1 at HU HO ⊢
  go_loopw [3, 4] (fun uv iv wr => ∃ i : Nat, i ≤ xs.length ∧ iv = .int .i64 i ∧ Hid (OwnI wr w.heap.size 3 uv (xs.take i)) ∧ Hid (Upd [] w wr)) (fun _ iv _ => xs.length - (intOf iv).toNat)
  case atStart => exact ⟨0, by omega, rfl, HO.out, HU.out⟩
  case round =>
    obtain ⟨i, hi, rfl, HO, HV⟩ := hrel
    obtain ⟨wo, rfl⟩ : ∃ wo : World, wo = wr := ⟨_, rfl⟩
    have hlen : (xs.take i).length = i := by rw [List.length_take]; omega
    obtain ⟨p2, c2, rfl⟩ := HO.out.shape
    by_cases hlt : i < xs.length
    · have e1 : decide ((i : Int) < (xs.length : Int)) = true := decide_eq_true (by omega)
      obtain rfl : p = some ⟨rb, 0, none⟩ := by
        rcases HP.out with h | h
        · rw [h] at hlt; cases hlt
        · exact h
      have hc := HV.out.cell (HR.out i hlt) (by simp)
      have HS : Hid (xs.take (i + 1) = xs.take i ++ [xs.getD i 0]) := by
        show _ = _
        rw [List.take_succ_eq_append_getElem hlt, List.getD_eq_getElem?_getD, List.getElem?_eq_getElem hlt]; rfl
      generalize xs.getD i 0 = x at hc HS
      generalize xs.take i = ys at HO HS hlen ⊢
      subst hlen
      go_wp2_with (at_builtin; refine stop_here ?_)
      refine Hid.mk ?_
      have hcn := cell_of (heap_alloc_new wo (.cells #[.int .i64 x] 3))
      have hsz := HV.out.size
      refine (wpList_append_own _ rfl _ _ 63 rfl w.heap.size 3 i0 (.int .i64 0) 1 8 Tryz.underlying63 HI.out HZ0.out HZ1.out HZ2.out rfl (by decide) _ _ _ rfl (HO.out.alloc (.cells #[.int .i64 x] 3)) ⟨wo.heap.size, 0, none⟩ 1 1 [.int .i64 x] rfl rfl ?c1 ?c2 ?c3 ?c4 ?c5 ?c6)
      case c1 =>
        intro jj uu hjj
        rw [Addr.add_lit, Nat.zero_add, hcn]
        simpa using hjj
      case c2 => simp [Value.oneCell']
      case c3 => unfold maxLen; omega
      case c4 => omega
      case c5 => simp; omega
      case c6 =>
        intro v' w6 hown hgr _
        have HU6 := Lib.hid ((HV.out.alloc (.cells #[.int .i64 x] 3)).grown hgr (fun q hq => .inr (HO.out.lt q hq).1))
        have hO6 := OwnI.snoc hown
        rw [← HS.out] at hO6
        have HO6 := Lib.hid hO6
        obtain ⟨g', cap', rfl⟩ := ownsRow_succ hown
        clear hown hgr hO6 hcn
        go_wp2_with fail
        go_roundw
        case rel => exact ⟨ys.length + 1, by omega, by go_num, HO6, HU6⟩
        case measure => simp [intOf]; omega
    · obtain rfl : i = xs.length := by omega
      rw [List.take_length] at HO
      have e1 : decide ((xs.length : Int) < (xs.length : Int)) = false := decide_eq_false (by omega)
      rw [hlen]
      go_wp2_with fail
      go_ret
      exact ⟨_, rfl, HO.out, HV.out⟩
end Go.Proofs.YtopojeanbpokaaaGreatDoor

/-! A []Do of law 13 that comes in, opened. -/
/-! A []Do of law 13 that comes in, opened. -/
namespace Go.Proofs.YtopojeanbpokaaaGreatDoor
open Go.RowKit Go.ChangeShapes Go.WideShapes Go.Deep

/-- Something that a stack is told. -/
structure Do13 where
  kind : Int
  a : Int
  by_ : Int
  x : Slt
  l : List Slt
deriving Inhabited

/-- The cells of one such thing. -/
def DoIn (w : World) (b o : Nat) (d : Do13) : Prop :=
  w.cell? ⟨b, o, none⟩ = some (.int .i64 d.kind) ∧ w.cell? ⟨b, o + 1, none⟩ = some (.int .i64 d.a) ∧ w.cell? ⟨b, o + 2, none⟩ = some (.int .i64 d.by_) ∧ w.cell? ⟨b, o + 3, none⟩ = some (.bool d.x.ref) ∧ w.cell? ⟨b, o + 4, none⟩ = some (.int .i64 d.x.n) ∧ ∃ lv, w.cell? ⟨b, o + 5, none⟩ = some lv ∧ SlO w lv d.l

theorem DoIn.upd {w w' : World} {b o : Nat} {d : Do13} {T : List Nat} (h : DoIn w b o d) (hu : Upd T w w') (hT : T = []) : DoIn w' b o d := by
  subst hT
  obtain ⟨h0, h1, h2, h3, h4, lv, h5, h6⟩ := h
  exact ⟨hu.cell h0 (by simp), hu.cell h1 (by simp), hu.cell h2 (by simp), hu.cell h3 (by simp), hu.cell h4 (by simp), lv, hu.cell h5 (by simp), h6.upd hu (by simp)⟩
/-- A slice value reads as so many things. -/
def DosAt (W : World) (v : Value) (n : Nat) : Prop :=
  ∃ a cap, v = .slice a n cap ∧ n ≤ cap ∧ cap ≤ maxLen ∧ ∀ i, i < n → ∃ b o d, a = some ⟨b, o, none⟩ ∧ (-9223372036854775808 ≤ d.a ∧ d.a ≤ 9223372036854775807) ∧ DoIn W b (o + i * 6) d

section
variable {H : Type} {enc : TypeId × Value → H} {P : Program} {w : World} {base : Nat} {spare : Nat → Bool} {held : Bool}
/-- A slice of structs, opened at every field, however wide. -/
theorem open_rowsW {t e : TypeId} {fs : Array Field} {sz : Nat} {fuel : Nat} {cs : List Value} {x : DataW H × List MemPlace} (ht : P.underlying t = some (.slice e)) (he : P.underlying e = some (.struct fs))
    (hC : P.cellsOf e = sz) (h : DataW.trod enc P w base spare held fuel t cs = some x) :
    ∃ (a : Option Addr) (len cap : Nat), cs = [.slice a len cap] ∧ (a = none → cap = 0) ∧ len ≤ cap ∧ cap ≤ maxLen ∧
      ∀ i, i < len → ∃ (a0 : Addr) (cs' : List Value), a = some a0 ∧ cs'.length = sz ∧ (∀ j, j < sz → w.cell? (a0.add (i * sz + j)) = cs'[j]?) ∧ ∀ (j : Nat) (f : Field), fs[j]? = some f → ∃ (n : Nat) (y : DataW H × List MemPlace), DataW.trod enc P w base spare held n f.type ((cs'.drop f.offset).take (P.cellsOf f.type)) = some y := by
  rcases open_slice ht h with ⟨h0, _⟩ | ⟨a, len, cap, m, n, D, Pl, hcs, hb, hl, hm, hmm, hx, hi⟩
  · exact ⟨none, 0, 0, h0, fun _ => rfl, Nat.le_refl _, Nat.zero_le _, fun i hi => absurd hi (by omega)⟩
  · have hlm : len ≤ m := by rw [hmm]; split <;> omega
    refine ⟨some a, len, cap, hcs, by simp, hl, hm, fun i hil => ?_⟩
    obtain ⟨cs', hc, ht'⟩ := hi i (by omega)
    rw [hC] at hc
    obtain ⟨ys, n', hn', hy, hlen, hyl, hf⟩ := DataW.trod_struct he ht'
    obtain ⟨_, hcl, hat⟩ := World.cells?_some hc
    refine ⟨a, cs', rfl, hcl, fun j hj => ?_, fun j f hj => ?_⟩
    · rw [← hat j hj, Go.Deep.add_add]
    · have hjl : j < fs.size := (Array.getElem?_eq_some_iff.1 hj).1
      have h1 := hf j f hj
      have hys : ys[j]? = some (ys[j]'(by omega)) := List.getElem?_eq_getElem (by omega)
      exact ⟨n', _, h1.trans hys⟩
end

section
variable {H : Type} {enc : TypeId × Value → H} {W : World}
theorem val_bool {n : Nat} {v : Value} {y : DataW H × List MemPlace}
    (h : DataW.trod enc Tryz.prog W 0 (fun _ => true) true n 4 [v] = some y) : ∃ x, v = .bool x := by
  obtain ⟨x, hx, _⟩ := DataW.trod_bool Tryz.underlying4 h
  simp at hx
  exact ⟨x, hx⟩
set_option maxRecDepth 100000 in
theorem open_slot {n : Nat} {v0 v1 : Value} {y : DataW H × List MemPlace} (h : DataW.trod enc Tryz.prog W 0 (fun _ => true) true n 44 [v0, v1] = some y) : ∃ x : Slt, v0 = .bool x.ref ∧ v1 = .int .i64 x.n := by
  obtain ⟨ys, m, _, _, _, hyl, hg⟩ := DataW.trod_struct Tryz.underlying44 h
  have g0 := hg 0 _ rfl
  have g1 := hg 1 _ rfl
  have l2 : ys.length = 2 := hyl
  rw [List.getElem?_eq_getElem (by omega)] at g0 g1
  obtain ⟨r, rfl⟩ := val_bool g0
  obtain ⟨k, rfl, _⟩ := val_i64 Tryz.underlying2 g1
  exact ⟨⟨r, k⟩, rfl, rfl⟩
set_option maxRecDepth 100000 in
theorem open_slots {n : Nat} {v : Value} {y : DataW H × List MemPlace} (h : DataW.trod enc Tryz.prog W 0 (fun _ => true) true n 45 [v] = some y) : ∃ xs, SlO W v xs ∧ xs.length ≤ maxLen := by
  obtain ⟨a, len, cap, hcs, ha, hl, hm, hi⟩ := open_rowsW (sz := 2) Tryz.underlying45 Tryz.underlying44 (by kernel_rfl) h
  have each : ∀ i, i < len → ∃ s : Slt, ∃ b o, a = some ⟨b, o, none⟩ ∧ W.cell? ⟨b, o + i * 2, none⟩ = some (.bool s.ref) ∧ W.cell? ⟨b, o + (i * 2 + 1), none⟩ = some (.int .i64 s.n) := by
    intro i hil
    obtain ⟨a0, cs', rfl, hl2, hc, hf⟩ := hi i hil
    obtain ⟨b, o, rfl⟩ : ∃ b o, a0 = ⟨b, o, none⟩ := by
      obtain ⟨a1, cs1, h1, hl1, hc1, _⟩ := hi 0 (by omega)
      obtain rfl := Option.some.inj h1
      have h2 := hc1 0 (by omega)
      rw [Nat.zero_mul, List.getElem?_eq_getElem (by omega)] at h2
      exact plain_of h2
    obtain ⟨c0, c1, rfl⟩ : ∃ c0 c1, cs' = [c0, c1] := by
      match cs', hl2 with
      | [x, y], _ => exact ⟨x, y, rfl⟩
    have e0 := hc 0 (by omega)
    have e1 := hc 1 (by omega)
    rw [Go.WideShapes.add_plain] at e0 e1
    obtain ⟨n0, y0, t0⟩ := hf 0 _ rfl
    obtain ⟨n1, y1, t1⟩ := hf 1 _ rfl
    obtain ⟨r, rfl⟩ := val_bool t0
    obtain ⟨k, rfl, _⟩ := val_i64 Tryz.underlying2 t1
    exact ⟨⟨r, k⟩, b, o, rfl, by simpa using e0, by simpa using e1⟩
  obtain ⟨S, hS⟩ := choose_lt each
  have hlen : ((List.range len).map S).length = len := by simp
  simp at hcs
  subst hcs
  refine ⟨(List.range len).map S, ⟨a, cap, by rw [hlen], fun i hi' => ?_⟩, by rw [hlen]; omega⟩
  rw [hlen] at hi'
  have e1 : ((List.range len).map S).getD i default = S i := by
    rw [List.getD_eq_getElem?_getD, List.getElem?_map, List.getElem?_range hi']; rfl
  rw [e1]
  exact hS i hi'
set_option maxRecDepth 100000 in
theorem open_dos13 {v : Value} {d : DataW H} {p : List MemPlace}
    (hval : ∃ a len cap, v = .slice a len cap) (h : DataW.Trod enc Tryz.prog W 0 (fun _ => true) true 26 v d p) : ∃ n, DosAt W v n := by
  obtain ⟨a9, len9, cap9, rfl⟩ := hval
  obtain ⟨fuel, hf⟩ := h
  obtain ⟨a, len, cap, hcs, ha, hl, hm, hi⟩ := open_rowsW (sz := 6) Tryz.underlying26 Tryz.underlying47 (by kernel_rfl) hf
  simp [Value.cells] at hcs
  obtain ⟨rfl, rfl, rfl⟩ := hcs
  refine ⟨_, _, _, rfl, hl, hm, fun i hil => ?_⟩
  obtain ⟨a0, cs', rfl, hl2, hc, hg⟩ := hi i hil
  obtain ⟨b, o, rfl⟩ : ∃ b o, a0 = ⟨b, o, none⟩ := by
    obtain ⟨a1, cs1, h1, hl1, hc1, _⟩ := hi 0 (by omega)
    obtain rfl := Option.some.inj h1
    have h2 := hc1 0 (by omega)
    rw [Nat.zero_mul, List.getElem?_eq_getElem (by omega)] at h2
    exact plain_of h2
  obtain ⟨c0, c1, c2, c3, c4, c5, rfl⟩ : ∃ c0 c1 c2 c3 c4 c5, cs' = [c0, c1, c2, c3, c4, c5] := by
    match cs', hl2 with
    | [x0, x1, x2, x3, x4, x5], _ => exact ⟨x0, x1, x2, x3, x4, x5, rfl⟩
  have e0 := hc 0 (by omega)
  have e1 := hc 1 (by omega)
  have e2 := hc 2 (by omega)
  have e3 := hc 3 (by omega)
  have e4 := hc 4 (by omega)
  have e5 := hc 5 (by omega)
  rw [Go.WideShapes.add_plain] at e0 e1 e2 e3 e4 e5
  obtain ⟨n0, y0, t0⟩ := hg 0 _ rfl
  obtain ⟨n1, y1, t1⟩ := hg 1 _ rfl
  obtain ⟨n2, y2, t2⟩ := hg 2 _ rfl
  obtain ⟨n3, y3, t3⟩ := hg 3 _ rfl
  obtain ⟨n4, y4, t4⟩ := hg 4 _ rfl
  obtain ⟨x0, rfl, b0⟩ := val_i64 Tryz.underlying3 t0
  obtain ⟨x1, rfl, b1⟩ := val_i64 Tryz.underlying3 t1
  obtain ⟨x2, rfl, b2⟩ := val_i64 Tryz.underlying3 t2
  obtain ⟨s, rfl, rfl⟩ := open_slot t3
  obtain ⟨xs, hxs, hxl⟩ := open_slots t4
  refine ⟨b, o, ⟨x0, x1, x2, s, xs⟩, rfl, b1, ?_, ?_, ?_, ?_, ?_, c5, ?_, hxs⟩
  · simpa [Nat.add_assoc] using e0
  · simpa [Nat.add_assoc] using e1
  · simpa [Nat.add_assoc] using e2
  · simpa [Nat.add_assoc] using e3
  · simpa [Nat.add_assoc] using e4
  · simpa [Nat.add_assoc] using e5
end
end Go.Proofs.YtopojeanbpokaaaGreatDoor

/-! FramesPlay: the frame of the law's walk, and what it is told. -/
/-! FramesPlay: the frame of the law's walk, and what it is told. -/
namespace Go.Proofs.YtopojeanbpokaaaGreatDoor
open Go.RowKit

def findBlock (n : Nat) : Code → Option Code
  | .block m c => if m = n then some (.block m c) else findBlock n c
  | .seq a b => match findBlock n a with
    | some c => some c
    | none => findBlock n b
  | .cond _ a b => match findBlock n a with
    | some c => some c
    | none => findBlock n b
  | .loop c => findBlock n c
  | .scope c => findBlock n c
  | _ => none
noncomputable def swC : Code := (Tryz.f3.body.bind (findBlock 2)).getD .skip
set_option maxRecDepth 1000000 in
/-- The law's frame: what it keeps, and whatever else. -/
def fpF (lim : Int) (la : Option Addr) (nl lc : Nat) (ask : Int) (pb xb ib sb : Nat) (s16 s17 s18 : Value) (f : Nat → Value) : Act :=
  ⟨#[f 0, .int .i64 lim, .slice la nl lc, .int .i64 ask, .pointer (some ⟨pb, 0, none⟩), f 5, f 6, f 7, .bool false, f 9, .pointer (some ⟨xb, 0, none⟩), f 11, .pointer (some ⟨ib, 0, none⟩), f 13, .pointer (some ⟨sb, 0, none⟩), f 15, s16, s17, s18, f 19, f 20, f 21, f 22, f 23,
    f 24, f 25, f 26, f 27, f 28, f 29, f 30, f 31, f 32, f 33, f 34, f 35, f 36, f 37, f 38, f 39, f 40, f 41, f 42, f 43, f 44, f 45, f 46, f 47,
    f 48, f 49, f 50, f 51, f 52, f 53, f 54, f 55, f 56, f 57, f 58, f 59, f 60, f 61, f 62, f 63, f 64, f 65, f 66, f 67, f 68, f 69, f 70, f 71,
    f 72, f 73, f 74, f 75, f 76, f 77, f 78, f 79, f 80, f 81, f 82, f 83, f 84, f 85, f 86, f 87, f 88, f 89, f 90, f 91, f 92, f 93, f 94, f 95,
    f 96, f 97, f 98, f 99, f 100, f 101, f 102, f 103, f 104, f 105, f 106, f 107, f 108, f 109, f 110, f 111, f 112, f 113, f 114, f 115, f 116, f 117, f 118, f 119,
    f 120, f 121, f 122, f 123, f 124, f 125, f 126, f 127, f 128, f 129, f 130, f 131, f 132, f 133, f 134, f 135, f 136, f 137, f 138, f 139, f 140, f 141, f 142, f 143,
    f 144, f 145, f 146, f 147, f 148, f 149, f 150, f 151, f 152, f 153, f 154, f 155, f 156, f 157, f 158, f 159, f 160, f 161, f 162, f 163, f 164, f 165, f 166, f 167,
    f 168, f 169, f 170, f 171, f 172, f 173, f 174, f 175, f 176, f 177, f 178, f 179, f 180, f 181, f 182, f 183, f 184, f 185, f 186, f 187, f 188, f 189, f 190, f 191,
    f 192, f 193, f 194, f 195, f 196, f 197, f 198, f 199, f 200, f 201, f 202, f 203, f 204, f 205, f 206, f 207, f 208, f 209, f 210, f 211, f 212, f 213, f 214, f 215,
    f 216, f 217, f 218, f 219, f 220, f 221, f 222, f 223, f 224, f 225, f 226, f 227, f 228, f 229, f 230, f 231, f 232, f 233, f 234, f 235, f 236, f 237, f 238, f 239,
    f 240, f 241, f 242, f 243, f 244, f 245, f 246, f 247, f 248, f 249, f 250, f 251, f 252, f 253, f 254, f 255, f 256, f 257, f 258, f 259, f 260, f 261, f 262, f 263,
    f 264, f 265, f 266, f 267, f 268, f 269, f 270, f 271, f 272, f 273, f 274, f 275, f 276, f 277, f 278, f 279, f 280, f 281, f 282, f 283, f 284, f 285, f 286, f 287,
    f 288, f 289, f 290, f 291, f 292, f 293, f 294, f 295, f 296, f 297, f 298, f 299, f 300, f 301, f 302, f 303, f 304, f 305, f 306, f 307, f 308, f 309, f 310, f 311,
    f 312, f 313, f 314, f 315, f 316, f 317, f 318, f 319, f 320, f 321, f 322, f 323, f 324, f 325, f 326, f 327, f 328, f 329, f 330, f 331, f 332, f 333, f 334, f 335,
    f 336, f 337, f 338, f 339, f 340, f 341, f 342, f 343, f 344, f 345, f 346, f 347, f 348, f 349, f 350, f 351, f 352, f 353, f 354, f 355, f 356, f 357, f 358, f 359,
    f 360, f 361, f 362, f 363, f 364, f 365, f 366, f 367, f 368, f 369, f 370, f 371, f 372, f 373, f 374, f 375, f 376, f 377, f 378, f 379, f 380, f 381, f 382, f 383,
    f 384, f 385, f 386, f 387, f 388, f 389, f 390, f 391, f 392, f 393, f 394, f 395, f 396, f 397, f 398, f 399, f 400, f 401, f 402, f 403, f 404, f 405, f 406, f 407,
    f 408, f 409, f 410, f 411, f 412, f 413, f 414, f 415, f 416, f 417, f 418, f 419, f 420, f 421, f 422, f 423, f 424, f 425, f 426, f 427, f 428, f 429, f 430, f 431,
    f 432, f 433, f 434, f 435, f 436, f 437, f 438, f 439, f 440, f 441, f 442, f 443, f 444, f 445, f 446, f 447, f 448, f 449, f 450, f 451, f 452, f 453, f 454, f 455,
    f 456, f 457, f 458, f 459, f 460, f 461, f 462, f 463, f 464, f 465, f 466, f 467, f 468, f 469, f 470, f 471, f 472, f 473, f 474, f 475, f 476, f 477, f 478, f 479,
    f 480, f 481, f 482, f 483, f 484, f 485, f 486, f 487, f 488, f 489, f 490, f 491, f 492, f 493, f 494, f 495, f 496, f 497, f 498, f 499, f 500, f 501, f 502, f 503,
    f 504, f 505, f 506, f 507, f 508, f 509, f 510, f 511, f 512, f 513, f 514, f 515, f 516, f 517, f 518, f 519, f 520, f 521, f 522, f 523, f 524, f 525, f 526, f 527,
    f 528, f 529, f 530, f 531, f 532, f 533, f 534, f 535, f 536, f 537, f 538, f 539, f 540, f 541, f 542, f 543, f 544, f 545, f 546, f 547, f 548, f 549, f 550, f 551,
    f 552, f 553, f 554, f 555, f 556, f 557, f 558, f 559, f 560, f 561, f 562, f 563, f 564, f 565, f 566, f 567, f 568, f 569, f 570, f 571, f 572, f 573, f 574, f 575,
    f 576, f 577, f 578, f 579, f 580, f 581, f 582, f 583, f 584, f 585, f 586, f 587, f 588, f 589, f 590, f 591, f 592, f 593, f 594, f 595, f 596, f 597, f 598, f 599,
    f 600, f 601, f 602, f 603, f 604, f 605, f 606, f 607, f 608, f 609, f 610, f 611, f 612, f 613, f 614, f 615, f 616, f 617, f 618, f 619, f 620, f 621, f 622, f 623,
    f 624, f 625, f 626, f 627, f 628, f 629, f 630, f 631, f 632, f 633, f 634, f 635, f 636, f 637, f 638, f 639, f 640, f 641, f 642, f 643, f 644, f 645, f 646, f 647,
    f 648, f 649, f 650, f 651, f 652, f 653, f 654, f 655, f 656, f 657, f 658, f 659, f 660, f 661, f 662, f 663, f 664, f 665, f 666, f 667, f 668, f 669, f 670, f 671,
    f 672, f 673, f 674, f 675, f 676, f 677, f 678, f 679, f 680, f 681, f 682, f 683, f 684, f 685, f 686, f 687, f 688, f 689, f 690, f 691, f 692, f 693, f 694, f 695,
    f 696, f 697, f 698, f 699, f 700, f 701, f 702, f 703, f 704, f 705, f 706, f 707, f 708, f 709, f 710, f 711, f 712, f 713, f 714, f 715, f 716, f 717, f 718, f 719,
    f 720, f 721, f 722, f 723, f 724, f 725, f 726, f 727, f 728, f 729, f 730, f 731, f 732, f 733, f 734, f 735, f 736, f 737, f 738, f 739, f 740, f 741, f 742, f 743,
    f 744, f 745, f 746, f 747, f 748, f 749, f 750, f 751, f 752, f 753, f 754, f 755, f 756, f 757, f 758, f 759, f 760], []⟩
theorem fpF_eq {lim : Int} {la : Option Addr} {nl lc : Nat} {ask : Int} {pb xb ib sb : Nat} {s16 s17 s18 : Value} {arr : List Value} (e : (⟨arr.toArray, []⟩ : Act) = fpF lim la nl lc ask pb xb ib sb s16 s17 s18 (fun k => arr.getD k undef)) : ∃ f, (⟨arr.toArray, []⟩ : Act) = fpF lim la nl lc ask pb xb ib sb s16 s17 s18 f := ⟨_, e⟩

theorem wp_fpF {P : Program} {c : Code} {Q : Exit → Act → World → Prop} {w : World} {lim : Int} {la : Option Addr} {nl lc : Nat} {ask : Int} {pb xb ib sb : Nat} {arr : List Value} (s16 s17 s18 v19 v20 v132 : Value) (e : (⟨arr.toArray, []⟩ : Act) = fpF lim la nl lc ask pb xb ib sb s16 s17 s18 (fun k => arr.getD k undef)) (e19 : arr.getD 19 undef = v19) (e20 : arr.getD 20 undef = v20) (e132 : arr.getD 132 undef = v132)
    (h : ∀ f, f 19 = v19 → f 20 = v20 → f 132 = v132 → c.wp P Q (fpF lim la nl lc ask pb xb ib sb s16 s17 s18 f) w) : c.wp P Q ⟨arr.toArray, []⟩ w := by
  rw [e]
  exact h _ e19 e20 e132

/-- What stands at the loop's head. -/
structure PlF (p : Prg) (ss : List Lk) (wA W0 wr : World) (ib : Nat) (lim : Int) (k : Nat) (n words : Int) (wv : Value) (fs : List Fr) (ws : List FrV) : Prop where
  duo : Duo wA W0 wr W0.heap.size ib p ss lim n words fs wv fs ws
  ok : FrsOk p fs
  few : fs.length ≤ k
  cnt : 0 ≤ n ∧ n ≤ k
/-- What the law knows all along. -/
structure FpC (E : Nat → Addr) (p : Prg) (ss : List Lk) (w wA W0 : World) (ib pb xb : Nat) (lim : Int) (a0 a1 a2 : Option Addr) (c0 c1 n2 c2 : Nat) : Prop where
  sent : SentAll w E
  up : Upd [] w wA
  ok : p.Ok
  cls : ClassAt wA (.slice a0 p.cs.length c0) p.cs
  ms : MethsAt wA (.slice a1 p.ms.length c1) p.ms
  lk : LksT wA (.slice a2 n2 c2) p.ms ss
  sl : ss.length = p.ms.length
  sk : ∀ j, j < p.ms.length → lookM p (p.ms.getD j default) = .ok (ss.getD j default)
  bp : wA.heap[pb]? = some (.cells #[.slice a0 p.cs.length c0, .slice a1 p.ms.length c1] 25)
  bx : wA.heap[xb]? = some (.cells #[.slice a0 p.cs.length c0, .slice a1 p.ms.length c1, .slice a2 n2 c2] 30)
  bd : pb < wA.heap.size ∧ xb < wA.heap.size
/-- What stands at the switch: the box of what is told. -/
structure FpD (wA W0 wd : World) (xd : Nat) (kd da dby : Int) (xr : Bool) (xn : Int) (lp : Option Addr) (lcc : Nat) (dl : List Slt) : Prop where
  bx : wd.heap[xd]? = some (.cells #[.int .i64 kd, .int .i64 da, .int .i64 dby, .bool xr, .int .i64 xn, .slice lp dl.length lcc] 47)
  so : SlO wA (.slice lp dl.length lcc) dl
  len : dl.length ≤ 20
  lo : wA.heap.size ≤ xd ∧ W0.heap.size ≤ xd
  da : -9223372036854775808 ≤ da ∧ da ≤ 9223372036854775807
/-- The loop's relation. -/
def FpI (p : Prg) (ss : List Lk) (wA W0 : World) (lim : Int) (la : Option Addr) (nl lc : Nat) (ask : Int) (pb xb ib : Nat) (a : Act) (wr : World) : Prop :=
  ∃ (wv : Value) (i : Nat) (n words : Int) (fs : List Fr) (ws : List FrV), i ≤ nl ∧ PlF p ss wA W0 wr ib lim i n words wv fs ws ∧ ∃ f, a = fpF lim la nl lc ask pb xb ib W0.heap.size wv (.int .i64 words) (.int .i64 i) f
/-- What stands behind the switch. -/
def FpR (p : Prg) (ss : List Lk) (wA W0 : World) (lim : Int) (la : Option Addr) (nl lc : Nat) (ask : Int) (pb xb ib i : Nat) (a : Act) (wr : World) : Prop :=
  ∃ (wv : Value) (n words : Int) (fs : List Fr) (ws : List FrV), PlF p ss wA W0 wr ib lim (i + 1) n words wv fs ws ∧ ∃ f, a = fpF lim la nl lc ask pb xb ib W0.heap.size wv (.int .i64 words) (.int .i64 i) f
theorem meth_cells {W : World} {a : Option Addr} {n c k : Nat} {ms : List Meth} (h : MethsAt W (.slice a n c) ms) (hk : k < ms.length) : ∃ bm mo ka kc, a = some ⟨bm, mo, none⟩ ∧ W.cell? ⟨bm, mo + k * 4, none⟩ = some (.string (ms.getD k default).params) ∧ W.cell? ⟨bm, mo + k * 4 + 1, none⟩ = some (.string (ms.getD k default).locals) ∧ W.cell? ⟨bm, mo + k * 4 + 2, none⟩ = some (.string (ms.getD k default).ret) ∧ W.cell? ⟨bm, mo + k * 4 + 3, none⟩ = some (.slice ka (ms.getD k default).code.length kc) := by
  obtain ⟨_, _, hme, _, hmm, hmx⟩ := h
  injection hme with hme1 _ hme2
  subst hme1 hme2
  obtain ⟨bm, mo, rfl, _, q0, q1, q2, kv, q3, hcode⟩ := hmx k hk
  obtain ⟨ka, kc, rfl, _⟩ := hcode
  exact ⟨bm, mo, ka, kc, rfl, q0, q1, q2, q3⟩
theorem WrsAt.blk {w : World} {B g n c : Nat} {fs : List Fr} {vs : List FrV} (h : WrsAt w B (.slice (some ⟨g, 0, none⟩) n c) fs vs) : B ≤ g ∧ ∃ cur, w.heap[g]? = some (.cells cur 56) := by
  rcases h.row.2 with ⟨h1, h2⟩ | ⟨g, c1, cur, h1, h2, h3, h4, _⟩
  · cases h1
  · injection h1 with e1
    injection e1 with e1
    injection e1 with e1
    subst e1
    exact ⟨h2, cur, h3⟩
theorem WrsAt.top {w : World} {B q n c : Nat} {fs : List Fr} {vs : List FrV} {f : Fr} {v : FrV} (h : WrsAt w B (.slice (some ⟨q, 0, none⟩) n c) (fs ++ [f]) (vs ++ [v])) (hl : vs.length = fs.length) :
    w.cell? ⟨q, fs.length * 4, none⟩ = some (.int .i64 f.m) ∧ w.cell? ⟨q, fs.length * 4 + 1, none⟩ = some (.int .i64 f.pc) ∧ w.cell? ⟨q, fs.length * 4 + 2, none⟩ = some v.lv ∧ w.cell? ⟨q, fs.length * 4 + 3, none⟩ = some v.sv ∧ ∀ k, w.frozen? ⟨q, k, none⟩ = false := by
  obtain ⟨q2, c2, e, _, _, y0, y1, y2, y3⟩ := wtop_at h hl
  injection e with e1
  injection e1 with e1
  injection e1 with e1
  subst e1
  obtain ⟨_, cur, hc⟩ := h.blk
  exact ⟨y0, y1, y2, y3, fun k => froz_of hc k⟩
theorem FpD.cells {wA W0 wd : World} {xd : Nat} {kd da dby : Int} {xr : Bool} {xn : Int} {lp : Option Addr} {lcc : Nat} {dl : List Slt} (h : FpD wA W0 wd xd kd da dby xr xn lp lcc dl) {w' : World} (hu : Upd [] wd w') :
    w'.cell? ⟨xd, 0, none⟩ = some (.int .i64 kd) ∧ w'.cell? ⟨xd, 1, none⟩ = some (.int .i64 da) ∧ w'.cell? ⟨xd, 2, none⟩ = some (.int .i64 dby) ∧ w'.cell? ⟨xd, 3, none⟩ = some (.bool xr) ∧ w'.cell? ⟨xd, 4, none⟩ = some (.int .i64 xn) ∧ w'.cell? ⟨xd, 5, none⟩ = some (.slice lp dl.length lcc) := by
  have hb := hu.heap h.bx (by simp)
  exact ⟨by rw [cell_of hb]; rfl, by rw [cell_of hb]; rfl, by rw [cell_of hb]; rfl, by rw [cell_of hb]; rfl, by rw [cell_of hb]; rfl, by rw [cell_of hb]; rfl⟩
theorem FpD.keep {wA W0 wd w1 : World} {xd : Nat} {kd da dby : Int} {xr : Bool} {xn : Int} {lp : Option Addr} {lcc : Nat} {dl : List Slt} (h : FpD wA W0 wd xd kd da dby xr xn lp lcc dl) (hk : KeepD wd w1) : FpD wA W0 w1 xd kd da dby xr xn lp lcc dl := ⟨hk _ _ h.bx, h.so, h.len, h.lo, h.da⟩
theorem FpD.same {wA W0 wd w1 : World} {xd : Nat} {kd da dby : Int} {xr : Bool} {xn : Int} {lp : Option Addr} {lcc : Nat} {dl : List Slt} (h : FpD wA W0 wd xd kd da dby xr xn lp lcc dl) (hu : Upd [] wd w1) : FpD wA W0 w1 xd kd da dby xr xn lp lcc dl := ⟨hu.heap h.bx (by simp), h.so, h.len, h.lo, h.da⟩
theorem FpC.cells {E : Nat → Addr} {p : Prg} {ss : List Lk} {w wA W0 : World} {ib pb xb : Nat} {lim : Int} {a0 a1 a2 : Option Addr} {c0 c1 n2 c2 : Nat} (h : FpC E p ss w wA W0 ib pb xb lim a0 a1 a2 c0 c1 n2 c2) {w' : World} (hu : Upd [] wA w') :
    w'.cell? ⟨pb, 0, none⟩ = some (.slice a0 p.cs.length c0) ∧ w'.cell? ⟨pb, 1, none⟩ = some (.slice a1 p.ms.length c1) ∧ w'.cell? ⟨xb, 0, none⟩ = some (.slice a0 p.cs.length c0) ∧ w'.cell? ⟨xb, 1, none⟩ = some (.slice a1 p.ms.length c1) ∧ w'.cell? ⟨xb, 2, none⟩ = some (.slice a2 n2 c2) := by
  have hb := hu.heap h.bp (by simp)
  have hx := hu.heap h.bx (by simp)
  exact ⟨by rw [cell_of hb]; rfl, by rw [cell_of hb]; rfl, by rw [cell_of hx]; rfl, by rw [cell_of hx]; rfl, by rw [cell_of hx]; rfl⟩
theorem FrOk.same {p : Prg} {f f' : Fr} (h : FrOk p f) (h1 : f'.m = f.m) (h2 : f'.loc.length = f.loc.length) (h3 : f'.stk.length ≤ 12) : FrOk p f' := ⟨by rw [h1]; exact h.m, by rw [h1, h2]; exact h.loc, h3⟩
theorem looks_uniq {p : Prg} {ss ss' : List Lk} (h1 : ss.length = p.ms.length) (h2 : ss'.length = p.ms.length) (h3 : ∀ j, j < p.ms.length → lookM p (p.ms.getD j default) = .ok (ss.getD j default)) (h4 : ∀ j, j < p.ms.length → lookM p (p.ms.getD j default) = .ok (ss'.getD j default)) : ss' = ss := by
  refine List.ext_getElem (by omega) (fun i hi hj => ?_)
  have e := (h3 i (by omega)).symm.trans (h4 i (by omega))
  injection e with e
  rw [List.getD_eq_getElem?_getD, List.getD_eq_getElem?_getD, List.getElem?_eq_getElem hi, List.getElem?_eq_getElem hj, Option.getD_some, Option.getD_some] at e
  exact e.symm
end Go.Proofs.YtopojeanbpokaaaGreatDoor

/-! FramesPlay: small lemmas of the walk. -/
/-! FramesPlay: small lemmas of the walk. -/
namespace Go.Proofs.YtopojeanbpokaaaGreatDoor
open Go.RowKit

theorem cut_from (w : World) (g len c l : Nat) (h1 : l ≤ len) (h : l < c) : (Instr.slice 45 (.slice (some ⟨g, 0, none⟩) len c) (some (.int .i64 (l : Int))) none none).run Tryz.prog w = .ok (.slice (some ⟨g, l * 2, none⟩) (len - l) (c - l)) w := by
  have hsz : (sizeOf 44).run Tryz.prog w = .ok 2 w := by kernel_rfl
  have he : Tryz.prog.elem 45 = 44 := by kernel_rfl
  rw [run_slice_l w 45 _ _ _ (by rw [he]; exact Tryz.underlying45) .i64 (l : Int) (by omega) (by omega), he, hsz]
  simp only [Result.andThen, sliced, Int.toNat_natCast]
  rw [if_neg (by omega)]
  simp [Addr.add]
  intro h
  exact h.symm
theorem cut_one (w : World) (g len c l : Nat) (h : l < c) : (Instr.slice 45 (.slice (some ⟨g, 0, none⟩) len c) (some (.int .i64 (l : Int))) (some (.int .i64 ((l : Int) + 1))) none).run Tryz.prog w = .ok (.slice (some ⟨g, l * 2, none⟩) 1 (c - l)) w := by
  have hsz : (sizeOf 44).run Tryz.prog w = .ok 2 w := by kernel_rfl
  have he : Tryz.prog.elem 45 = 44 := by kernel_rfl
  rw [run_slice_lh w 45 _ _ _ (by rw [he]; exact Tryz.underlying45) .i64 .i64 (l : Int) ((l : Int) + 1) (by omega) (by omega) (by omega), he, hsz]
  have e1 : ((l : Int) + 1).toNat - l = 1 := by omega
  simp only [Result.andThen, sliced, Int.toNat_natCast]
  rw [if_neg (by omega), e1]
  simp [Addr.add]
  intro h
  exact h.symm
theorem so_one {w : World} {b o c : Nat} {x : Slt} (h0 : w.cell? ⟨b, o, none⟩ = some (.bool x.ref)) (h1 : w.cell? ⟨b, o + 1, none⟩ = some (.int .i64 x.n)) : SlO w (.slice (some ⟨b, o, none⟩) 1 c) [x] :=
  ⟨_, _, rfl, fun i hi => by
    obtain rfl : i = 0 := by simpa using hi
    exact ⟨b, o, rfl, by simpa using h0, by simpa using h1⟩⟩
theorem WrsAt.stkT {w : World} {B : Nat} {lv : Value} {fs : List Fr} {vs : List FrV} {f : Fr} {v : FrV} (h : WrsAt w B lv (fs ++ [f]) (vs ++ [v])) (hl : vs.length = fs.length) : OwnSl w B v.sv f.stk := by
  have h3 := h.stk fs.length (by simp)
  rw [getD_snoc_eq] at h3
  rw [show (vs ++ [v]).getD fs.length default = v by rw [← hl]; exact getD_snoc_eq _ _ _] at h3
  exact h3
theorem WrsAt.locT {w : World} {B : Nat} {lv : Value} {fs : List Fr} {vs : List FrV} {f : Fr} {v : FrV} (h : WrsAt w B lv (fs ++ [f]) (vs ++ [v])) (hl : vs.length = fs.length) : OwnSl w B v.lv f.loc := by
  have h3 := h.loc fs.length (by simp)
  rw [getD_snoc_eq] at h3
  rw [show (vs ++ [v]).getD fs.length default = v by rw [← hl]; exact getD_snoc_eq _ _ _] at h3
  exact h3
end Go.Proofs.YtopojeanbpokaaaGreatDoor

/-! FramesPlay: the references are turned (plain). -/
/-! FramesPlay: the references are turned (plain). -/
namespace Go.Proofs.YtopojeanbpokaaaGreatDoor
open Go.RowKit

def trn (b x : Int) : Int := x % 1048576 + b
def turnR (b : Int) (R : List Int) (k : Nat) : List Int := (R.take k).map (trn b) ++ R.drop k
theorem turnR_zero (b : Int) (R : List Int) : turnR b R 0 = R := by simp [turnR]
theorem turnR_all (b : Int) (R : List Int) : turnR b R R.length = R.map (trn b) := by simp [turnR]
theorem turnR_len (b : Int) (R : List Int) (k : Nat) : (turnR b R k).length = R.length := by
  simp [turnR]
  omega
theorem turnR_get (b : Int) (R : List Int) (k : Nat) (h : k < R.length) : (turnR b R k).getD k 0 = R.getD k 0 := by
  unfold turnR
  have h1 : ((R.take k).map (trn b)).length = k := by simp; omega
  rw [List.getD_eq_getElem?_getD, List.getElem?_append_right (by omega), h1, Nat.sub_self, List.getElem?_drop, Nat.add_zero, List.getD_eq_getElem?_getD]
theorem turnR_step (b : Int) (R : List Int) (k : Nat) (h : k < R.length) : (turnR b R k).set k (trn b (R.getD k 0)) = turnR b R (k + 1) := by
  unfold turnR
  have h1 : ((R.take k).map (trn b)).length = k := by simp; omega
  rw [List.set_append_right _ _ (by omega), h1, Nat.sub_self, List.drop_eq_getElem_cons h, List.set_cons_zero, List.take_succ_eq_append_getElem h, List.map_append, List.getD_eq_getElem?_getD, List.getElem?_eq_getElem h]
  simp
theorem trn_ge (b x : Int) (h : 0 ≤ b) : 0 ≤ trn b x := by
  unfold trn
  omega
theorem OwnI.set {w : World} {B g c : Nat} {xs : List Int} (h : OwnI w B 3 (.slice (some ⟨g, 0, none⟩) xs.length c) xs) (j : Nat) (x : Int) : OwnI (w.setCell ⟨g, j, none⟩ (.int .i64 x)) B 3 (.slice (some ⟨g, 0, none⟩) xs.length c) (xs.set j x) := by
  have h1 := ownsRow_set (h := h) j (.int .i64 x)
  unfold OwnI
  rw [List.length_set, List.map_set]
  exact h1
theorem OwnI.iv {w : World} {B : Nat} {v : Value} {xs : List Int} (h : OwnI w B 3 v xs) : ∃ b, IntsV w v b xs ∧ (xs = [] ∨ ∃ cur, w.heap[b]? = some (.cells cur 3)) ∧ (xs = [] ∨ v.ownBlock = some b) := by
  obtain ⟨b, h1, h2⟩ := IntsV.of_row h
  refine ⟨b, h1, h2.imp id (fun hb => ?_), h2⟩
  rcases h.2 with ⟨h3, _⟩ | ⟨g, c, cur, h3, _, hg, _⟩
  · rw [h3] at hb; cases hb
  · rw [h3] at hb
    simp only [Value.ownBlock, Option.some.injEq] at hb
    subst hb
    exact ⟨cur, hg⟩
theorem OwnI.frozL {w : World} {B g m c : Nat} {xs : List Int} (h : OwnI w B 3 (.slice (some ⟨g, 0, none⟩) m c) xs) (k : Nat) : w.frozen? ⟨g, k, none⟩ = false := by
  rcases h.2 with ⟨h1, h2⟩ | ⟨g1, c1, cur, h1, hb, hg, hc, _⟩
  · cases h1
  · injection h1 with e1
    injection e1 with e1
    injection e1 with e1
    subst e1
    exact froz_of hg k
theorem ints_copy {w : World} {B rc n : Nat} {rp : Option Addr} {N : List Int} (hn : N.length = n) (hl : N.length ≤ 100000) (h : OwnI w B 3 (.slice rp n rc) N) :
    Calls Tryz.prog 21 #[.slice rp n rc] w fun e w' => ∃ u, e = .returned u ∧ OwnI w' w.heap.size 3 u N ∧ Upd [] w w' := by
  subst hn
  rcases h.form with ⟨h1, h2⟩ | ⟨g, c, h1, _, _, _, h5⟩
  · refine rints_any rp rc 0 N w hl (.inl h2) (fun i hi => ?_)
    rw [h2] at hi
    simp at hi
  · injection h1 with e1 _ e3
    subst e1 e3
    exact rints_any _ _ g N w hl (.inr rfl) h5
theorem FrsOk.roots2 {p : Prg} (hp : p.Ok) : ∀ {fs : List Fr}, FrsOk p fs → (rootsL fs).length ≤ fs.length * 24
  | [], _ => by simp [rootsL]
  | f :: fs, h => by
    have h1 := (h f (by simp)).small hp
    have h2 := FrsOk.roots2 hp (fs := fs) (fun x hx => h x (by simp [hx]))
    have h3 := rrS_le f.loc
    have h4 := rrS_le f.stk
    have e : rootsL (f :: fs) = (rrS f.loc ++ rrS f.stk) ++ rootsL fs := by simp [rootsL]
    rw [e, List.length_append, List.length_append, List.length_cons]
    omega
theorem own_cap {w : World} {B n c : Nat} {a : Option Addr} {xs : List Slt} (h : OwnSl w B (.slice a n c) xs) : xs.length ≤ c := by
  rcases h.2 with ⟨h1, h2⟩ | ⟨g, c1, cur, h1, h2, h3, h4, _⟩
  · omega
  · injection h1 with _ _ e3
    omega
/-- In the midst of setting the law's references. -/
structure SetI (fs : List Fr) (R N : List Int) (gs : List Fr) (c : Nat) : Prop where
  al : AlikeL fs gs
  ro : rootsL gs = N.take c ++ R.drop c
theorem SetI.step {fs gs : List Fr} {R N : List Int} {c i r k : Nat} (h : SetI fs R N gs c) (hN : N.length = R.length) (hR : rootsL fs = R) (hi : i < fs.length) (hr : r < 2) (hk : k < (rowF (fs.getD i default) r).length) (hb : ((rowF (fs.getD i default) r).getD k default).ref = true) (hc : c = baseF fs i r + refN ((rowF (fs.getD i default) r).take k)) :
    c < N.length ∧ SetI fs R N (updF gs i r k (N.getD c 0)) (c + 1) := by
  obtain ⟨h1, h2⟩ := h
  have hr2 := (h1.at_ i).row r
  have hi' : i < gs.length := by rw [← h1.len]; exact hi
  have hk' : k < (rowF (gs.getD i default) r).length := by rw [← hr2.len]; exact hk
  have hb' : ((rowF (gs.getD i default) r).getD k default).ref = true := by rw [← hr2.ref_at k]; exact hb
  obtain ⟨P, Q, hP, hU, hPl⟩ := roots_upd gs i r k (N.getD c 0) hi' hr hk' hb'
  have hal' := updF_alike gs i r k (N.getD c 0) hi' hk' hb'
  have hj : c = P.length := by rw [hPl, ← baseF_alike h1, ← hr2.refN_take k]; exact hc
  clear hc
  subst hj
  have hlt : P.length < N.length := by
    have e1 := congrArg List.length (hP.symm.trans h2)
    have e2 : (rootsL gs).length = R.length := by
      rw [← hR, rootsL_len, rootsL_len]
      have := cntR_alike h1 fs.length
      unfold cntR at this
      rw [List.take_length, h1.len, List.take_length] at this
      exact this.symm
    have e3 := congrArg List.length hP
    simp only [List.length_append, List.length_cons] at e3
    omega
  obtain ⟨e1, e2⟩ := List.append_inj (hP.symm.trans h2) (by rw [List.length_take]; omega)
  have e3 : Q = R.drop (P.length + 1) := by
    have h := congrArg (List.drop 1) e2
    rw [List.drop_drop] at h
    simpa using h
  have ht : N.take (P.length + 1) = P ++ [N.getD P.length 0] := by
    rw [List.take_succ_eq_append_getElem hlt, ← e1, List.getD_eq_getElem?_getD, List.getElem?_eq_getElem hlt]
    rfl
  refine ⟨hlt, h1.trans hal', ?_⟩
  rw [hU, e3, ht]
  simp
theorem SetI.start {fs : List Fr} {R N : List Int} (hR : rootsL fs = R) : SetI fs R N fs 0 := ⟨AlikeL.refl _, by simp [hR]⟩
theorem SetI.done {fs fs' gs : List Fr} {R N : List Int} (h : SetI fs R N gs (cntR fs fs.length)) (hN : N.length = R.length) (hR : rootsL fs = R) (ha : AlikeL fs fs') (hro : rootsL fs' = N) : gs = fs' := by
  have hc : cntR fs fs.length = R.length := by
    rw [← hR, rootsL_len]
    unfold cntR
    rw [List.take_length]
  refine AlikeL.uniq (h.al.symm.trans ha) ?_
  rw [h.ro, hro, hc, ← hN, List.take_length, hN, List.drop_length, List.append_nil]
end Go.Proofs.YtopojeanbpokaaaGreatDoor

/-! FramesPlay: Push, whatever comes of it. -/
/-! FramesPlay: Push, whatever comes of it. -/
namespace Go.Proofs.YtopojeanbpokaaaGreatDoor
open Go.RowKit

theorem slcells_setN : ∀ (xs : List Slt) (k : Nat) (x : Int), k < xs.length → slcells (xs.set k ⟨(xs.getD k default).ref, x⟩) = (slcells xs).set (k * 2 + 1) (.int .i64 x)
  | [], k, _, h => by simp at h
  | ⟨r, n⟩ :: xs, 0, x, _ => rfl
  | y :: xs, k + 1, x, h => by
    have ih := slcells_setN xs k x (by simpa using h)
    have e : (k + 1) * 2 + 1 = k * 2 + 1 + 1 + 1 := by omega
    have e2 : (y :: xs).getD (k + 1) default = xs.getD k default := rfl
    rw [e, e2, List.set_cons_succ]
    simp only [slcells, List.set_cons_succ]
    rw [ih]
theorem OwnSl.setN {w : World} {B q c : Nat} {xs : List Slt} (h : OwnSl w B (.slice (some ⟨q, 0, none⟩) xs.length c) xs) (k : Nat) (x : Int) (hk : k < xs.length) : OwnSl (w.setCell ⟨q, k * 2 + 1, none⟩ (.int .i64 x)) B (.slice (some ⟨q, 0, none⟩) xs.length c) (xs.set k ⟨(xs.getD k default).ref, x⟩) := by
  unfold OwnSl
  rw [List.length_set, slcells_setN xs k x hk]
  exact ownsRow_set h _ _
def bytAt (ps : ByteArray) (i : Nat) : Int := if h : i < ps.size then ((ps[i]'h).toNat : Int) else 0
def shB (xs : List Slt) (ps : ByteArray) (j : Nat) : Bool := decide (xs.length = ps.size) && (List.range j).all fun i => fitsB (xs.getD i default) (bytAt ps i)
theorem shB_step (xs : List Slt) (ps : ByteArray) (j : Nat) : shB xs ps (j + 1) = (shB xs ps j && fitsB (xs.getD j default) (bytAt ps j)) := by
  unfold shB
  rw [List.range_succ, List.all_append]
  simp [Bool.and_assoc]
theorem shB_mono (xs : List Slt) (ps : ByteArray) {j n : Nat} (h : j ≤ n) (hf : shB xs ps j = false) : shB xs ps n = false := by
  induction n with
  | zero =>
    obtain rfl : j = 0 := by omega
    exact hf
  | succ n ih =>
    by_cases e : j = n + 1
    · rw [← e]; exact hf
    · rw [shB_step, ih (by omega)]; rfl
theorem shB_len {xs : List Slt} {ps : ByteArray} {j : Nat} (h : shB xs ps j = true) : xs.length = ps.size := by
  unfold shB at h
  rw [Bool.and_eq_true] at h
  exact of_decide_eq_true h.1
theorem fpF_eqP {lim : Int} {la : Option Addr} {nl lc : Nat} {ask : Int} {pb xb ib sb : Nat} {s16 s17 s18 : Value} {arr : List Value} (P : (Nat → Value) → Prop) (e : (⟨arr.toArray, []⟩ : Act) = fpF lim la nl lc ask pb xb ib sb s16 s17 s18 (fun k => arr.getD k undef)) (h : P (fun k => arr.getD k undef)) : ∃ f, (⟨arr.toArray, []⟩ : Act) = fpF lim la nl lc ask pb xb ib sb s16 s17 s18 f ∧ P f := ⟨_, e, h⟩
theorem y_done {w10 W : World} {yb : Nat} {v8 : Value} {dl : List Slt} (k : Int) (hW : Upd [] w10 W) (hyb : w10.heap.size ≤ yb) (hz : W.heap[yb]? = some (.cells #[.int .i64 0, .int .i64 0, .slice none 0 0, .slice none 0 0] 56)) (ho : OwnSl W w10.heap.size v8 dl) :
    Upd [] w10 ((((W.setCell ⟨yb, 0, none⟩ (.int .i64 k)).setCell ⟨yb, 1, none⟩ (.int .i64 0)).setCell ⟨yb, 2, none⟩ v8).setCell ⟨yb, 3, none⟩ (.slice none 0 0)) ∧
    ((((W.setCell ⟨yb, 0, none⟩ (.int .i64 k)).setCell ⟨yb, 1, none⟩ (.int .i64 0)).setCell ⟨yb, 2, none⟩ v8).setCell ⟨yb, 3, none⟩ (.slice none 0 0)).heap[yb]? = some (.cells #[.int .i64 k, .int .i64 0, v8, .slice none 0 0] 56) ∧
    OwnSl ((((W.setCell ⟨yb, 0, none⟩ (.int .i64 k)).setCell ⟨yb, 1, none⟩ (.int .i64 0)).setCell ⟨yb, 2, none⟩ v8).setCell ⟨yb, 3, none⟩ (.slice none 0 0)) w10.heap.size v8 dl := by
  have hu : Upd [yb] W ((((W.setCell ⟨yb, 0, none⟩ (.int .i64 k)).setCell ⟨yb, 1, none⟩ (.int .i64 0)).setCell ⟨yb, 2, none⟩ v8).setCell ⟨yb, 3, none⟩ (.slice none 0 0)) := ((((Upd.refl [yb] W).setCell (.inl (by simp)) _).setCell (.inl (by simp)) _).setCell (.inl (by simp)) _).setCell (.inl (by simp)) _
  refine ⟨hW.trans' hu (fun q hq hl => by rw [List.mem_singleton] at hq; omega), ?_, OwnSl.upd ho hu (fun b hb hm => ?_)⟩
  · have h0 := heap_setCell hz 0 (.int .i64 k)
    have h1 := heap_setCell h0 1 (.int .i64 0)
    have h2 := heap_setCell h1 2 v8
    have h3 := heap_setCell h2 3 (.slice none 0 0)
    rw [h3]
    rfl
  · rw [List.mem_singleton] at hm
    subst hm
    exact own_heap_ne ho hz (by decide) hb
theorem Tryz.infoWr : (Tryz.prog.info? 56).map (fun i => (i.zero, i.size, i.bytes)) = some (some (.agg #[.int .i64 0, .int .i64 0, .slice none 0 0, .slice none 0 0]), 4, 64) := by kernel_rfl
theorem wr_new (w : World) (k : Nat) (v : Value) : ∀ j u, [Value.int .i64 k, .int .i64 0, v, .slice none 0 0][j]? = some u → (w.alloc (.cells #[.int .i64 k, .int .i64 0, v, .slice none 0 0] 56)).cell? ((⟨w.heap.size, 0, none⟩ : Addr).add j) = some u := fun j u hj => by
  rw [Addr.add_lit, Nat.zero_add, cell_of (heap_alloc_new w _)]
  simpa using hj
theorem byte_list (s : ByteArray) (t : Nat) (h : t < s.size) : s[t]'h = s.toList.getD t 0 := by
  obtain ⟨l, rfl⟩ : ∃ l, s = bs l := ⟨s.toList, (bs_of s).symm⟩
  rw [bs_byte, bs_list]
theorem kind_byte (m : Meth) (t j : Nat) (ht : t < m.locals.size) (hj : j = m.params.size + t) (h : j < (bs (kindsL m)).size) : (bs (kindsL m))[j]'h = m.locals[t]'ht := by
  rw [bs_byte, byte_list]
  subst hj
  have hl : m.params.toList.length = m.params.size := (size_list _).symm
  unfold kindsL
  rw [List.getD_eq_getElem?_getD, List.getElem?_append_right (by omega), hl, Nat.add_sub_cancel_left, List.getD_eq_getElem?_getD]
/-- Do these values fit a method's parameters? -/
def FitL (p : Prg) (k : Nat) (xs : List Slt) : Prop := xs.length = (p.ms.getD k default).params.size ∧ ∀ i (hi : i < (p.ms.getD k default).params.size), fitsB (xs.getD i default) ((((p.ms.getD k default).params[i]'hi).toNat : Int)) = true
theorem fit_iff (p : Prg) (k : Nat) (xs : List Slt) : shB xs (p.ms.getD k default).params xs.length = true ↔ FitL p k xs := by
  unfold FitL shB
  rw [Bool.and_eq_true, decide_eq_true_iff]
  constructor
  · rintro ⟨h1, h2⟩
    refine ⟨h1, fun i hi => ?_⟩
    have h3 := List.all_eq_true.1 h2 i (List.mem_range.2 (by omega))
    unfold bytAt at h3
    rw [dif_pos hi] at h3
    exact h3
  · rintro ⟨h1, h2⟩
    refine ⟨h1, List.all_eq_true.2 (fun i hi => ?_)⟩
    have hi2 := List.mem_range.1 hi
    unfold bytAt
    rw [dif_pos (by omega)]
    exact h2 i (by omega)
/-- What came of Push. -/
inductive PushRes (E : Nat → Addr) (p : Prg) (ss : List Lk) (lim n words : Int) (fs : List Fr) (da : Int) (xs : List Slt) : Value → Int → Int → List Fr → Prop
  | index : ¬ (0 ≤ da ∧ da < (p.ms.length : Int)) → PushRes E p ss lim n words fs da xs (sErr E 2) n words fs
  | shape (k : Nat) : da = (k : Int) → k < p.ms.length → ¬ FitL p k xs → PushRes E p ss lim n words fs da xs (sErr E 4) n words fs
  | room (k : Nat) : da = (k : Int) → k < p.ms.length → FitL p k xs → lim - words < frW p ss k → PushRes E p ss lim n words fs da xs (sErr E 13) (n + 1) words fs
  | ok (k : Nat) : da = (k : Int) → k < p.ms.length → FitL p k xs → frW p ss k ≤ lim - words → PushRes E p ss lim n words fs da xs .nilIface (n + 1) (words + frW p ss k) (fs ++ [newFr p k xs])
theorem PushRes.split {E : Nat → Addr} {p : Prg} {ss : List Lk} {lim n words : Int} {fs : List Fr} {da : Int} {xs : List Slt} {gv : Value} {n' words' : Int} {fs' : List Fr} (h : PushRes E p ss lim n words fs da xs gv n' words' fs') :
    (¬ (0 ≤ da ∧ da < (p.ms.length : Int)) ∧ gv = sErr E 2 ∧ n' = n ∧ words' = words ∧ fs' = fs) ∨ ∃ k : Nat, da = (k : Int) ∧ k < p.ms.length ∧
      ((shB xs (p.ms.getD k default).params xs.length = false ∧ gv = sErr E 4 ∧ n' = n ∧ words' = words ∧ fs' = fs) ∨
       (shB xs (p.ms.getD k default).params xs.length = true ∧ lim - words < frW p ss k ∧ gv = sErr E 13 ∧ n' = n + 1 ∧ words' = words ∧ fs' = fs) ∨
       (shB xs (p.ms.getD k default).params xs.length = true ∧ frW p ss k ≤ lim - words ∧ gv = .nilIface ∧ n' = n + 1 ∧ words' = words + frW p ss k ∧ fs' = fs ++ [newFr p k xs])) := by
  cases h with
  | index h => exact .inl ⟨h, rfl, rfl, rfl, rfl⟩
  | shape k h1 h2 h3 =>
    refine .inr ⟨k, h1, h2, .inl ⟨?_, rfl, rfl, rfl, rfl⟩⟩
    cases hb : shB xs (p.ms.getD k default).params xs.length with
    | true => exact absurd ((fit_iff p k xs).1 hb) h3
    | false => rfl
  | room k h1 h2 h3 h4 => exact .inr ⟨k, h1, h2, .inr (.inl ⟨(fit_iff p k xs).2 h3, h4, rfl, rfl, rfl, rfl⟩)⟩
  | ok k h1 h2 h3 h4 => exact .inr ⟨k, h1, h2, .inr (.inr ⟨(fit_iff p k xs).2 h3, h4, rfl, rfl, rfl, rfl⟩)⟩
section
variable {wb W0 w w' : World} {sb ib mb : Nat} {p : Prg} {ss : List Lk} {n : Int} {limit words : Int} {fs : List Fr} {wl : Value} {gs : List Fr} {ws : List FrV}
theorem trio_push2 {E : Nat → Addr} {k B : Nat} {av : Value} {xs : List Slt} (h : Trio wb W0 w sb ib p ss limit n words fs wl gs ws mb) (hS : SentP w E) (hk : k < p.ms.length) (ha : OwnSl w B av xs) (hab : ∀ b, av.ownBlock = some b → b = mb) (hml : mb < w.heap.size) (hsb : sb < mb)
    (hfit : FitL p k xs) (h0 : 0 ≤ n) (h1 : n ≤ 900000000) :
    Calls Tryz.prog 9 #[.pointer (some ⟨sb, 0, none⟩), .int .i64 k, av] w fun e w' => OwnSl w' B av xs ∧ KeepD w w' ∧ ((frW p ss k ≤ limit - words ∧ e = .returned .nilIface ∧ Trio wb W0 w' sb ib p ss limit (n + 1) (words + frW p ss k) (fs ++ [newFr p k xs]) wl gs ws mb) ∨ (limit - words < frW p ss k ∧ e = .returned (sErr E 13) ∧ Trio wb W0 w' sb ib p ss limit (n + 1) words fs wl gs ws mb)) := by
  obtain ⟨cv, mv, lv, vs, h2, h3, h4, h5⟩ := h
  have hib := h2.st.ib_lt
  obtain ⟨ab, hav, hax⟩ := ha.read
  have hai : xs = [] ∨ ab ≠ ib := by
    by_cases e : xs = []
    · exact .inl e
    · refine .inr ?_
      rcases hav.1 with ⟨_, h6⟩ | ⟨c9, h6⟩
      · exact absurd h6 e
      · have h7 := hab ab (by rw [h6]; rfl)
        omega
  refine (spush_own E W0 w sb ib p ss 0 n cv mv limit words lv fs vs k av ab xs h2.st h3 hS hk hav hai hfit.1 hfit.2 h0 h1).mono ?_
  rintro e w2 ⟨hcase, T, hT, hu⟩
  have hl := h2.st.frs.len
  have hTn : ∀ t ∈ T, t = ib ∨ t = sb ∨ lv.ownBlock = some t ∨ (∃ i, i < fs.length ∧ (vs.getD i default).has t) ∨ w.heap.size ≤ t := fun t ht => by
    rcases hT t ht with e | e | ⟨e, _⟩
    · exact .inl e
    · exact .inr (.inl e)
    · exact .inr (.inr (.inl e))
  have hown : OwnSl w2 B av xs := ha.upd hu (fun q hq hm => by
    have hqm := hab q hq
    obtain ⟨cur, hc⟩ := OwnSl.typed ha hq
    rcases hT q hm with e | e | ⟨e, _⟩
    · omega
    · omega
    · exact own_heap_ne h2.st.frs.row hc (by decide) e)
  refine ⟨hown, h2.keep hu hTn, ?_⟩
  rcases hcase with ⟨h6, rfl, ⟨lv', v', ⟨_, hv'⟩, hst⟩, hok⟩ | ⟨h6, rfl, hst⟩
  · refine .inl ⟨h6, rfl, cv, mv, lv', vs ++ [v'], h2.stack hu hst hTn (fun i hi b hb => ?_), hok, fun i hi hb => ?_, h5⟩
    · rcases has_snoc (by simp at hi; omega) hb with ⟨k2, hk2, h7⟩ | h7
      · exact .inr ⟨k2, by omega, h7⟩
      · exact .inl (hv' b h7)
    · rcases has_snoc (by simp at hi; omega) hb with ⟨k2, hk2, h7⟩ | h7
      · exact h4 k2 (by omega) h7
      · have := hv' mb h7
        omega
  · exact .inr ⟨h6, rfl, cv, mv, lv, vs, h2.stack hu hst hTn (fun i hi b hb => .inr ⟨i, hi, hb⟩), h3, h4, h5⟩
theorem push_res {E : Nat → Addr} {B : Nat} {da : Int} {av : Value} {xs : List Slt} (h : Trio wb W0 w sb ib p ss limit n words fs wl gs ws mb) (hS : SentAll w E) (ha : OwnSl w B av xs) (hab : ∀ b, av.ownBlock = some b → b = mb) (hml : mb < w.heap.size) (hsb : sb < mb) (hx : xs.length ≤ 20) (h0 : 0 ≤ n) (h1 : n ≤ 900000000) :
    Calls Tryz.prog 9 #[.pointer (some ⟨sb, 0, none⟩), .int .i64 da, av] w fun e w' => ∃ gv n' words' fs', e = .returned gv ∧ OwnSl w' B av xs ∧ KeepD w w' ∧ Trio wb W0 w' sb ib p ss limit n' words' fs' wl gs ws mb ∧ PushRes E p ss limit n words fs da xs gv n' words' fs' := by
  obtain ⟨ap, ac, hsh⟩ := ha.shape
  have keep0 : ∀ {W : World}, Upd [] w W → KeepD w W := fun hu b cur hb => hu.heap hb (by simp)
  by_cases hk : 0 ≤ da ∧ da < (p.ms.length : Int)
  · obtain ⟨k, rfl⟩ : ∃ k : Nat, da = (k : Int) := ⟨da.toNat, by omega⟩
    have hkl : k < p.ms.length := by omega
    by_cases hf : FitL p k xs
    · refine (trio_push2 h hS.toP hkl ha hab hml hsb hf h0 h1).mono ?_
      rintro e w2 ⟨ho, hkd, ⟨h6, rfl, ht⟩ | ⟨h6, rfl, ht⟩⟩
      · exact ⟨_, _, _, _, rfl, ho, hkd, ht, .ok k rfl hkl hf h6⟩
      · exact ⟨_, _, _, _, rfl, ho, hkd, ht, .room k rfl hkl hf h6⟩
    · refine (trio_push_shape h hS hkl ha (by omega) (fun hl => ?_)).mono ?_
      · refine Classical.byContradiction (fun hn => hf ⟨hl, fun i hi => ?_⟩)
        cases hb : fitsB (xs.getD i default) ((((p.ms.getD k default).params[i]'hi).toNat : Int)) with
        | true => rfl
        | false => exact absurd ⟨i, hi, hb⟩ hn
      · rintro e w2 ⟨rfl, hu⟩
        exact ⟨_, _, _, _, rfl, OwnSl.upd ha hu (by simp), keep0 hu, h.same hu, .shape k rfl hkl hf⟩
  · rw [hsh]
    refine (trio_push_index h hS hk).mono ?_
    rintro e w2 ⟨rfl, rfl⟩
    exact ⟨_, _, _, _, rfl, by rw [← hsh]; exact ha, fun _ _ h => h, h, .index hk⟩
end
end Go.Proofs.YtopojeanbpokaaaGreatDoor
