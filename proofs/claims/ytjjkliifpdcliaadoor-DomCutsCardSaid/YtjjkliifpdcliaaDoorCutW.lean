/- DomCuts: the law's walk. -/
import Derived.Test.YtjjkliifpdcliaaDoorDomQR
import Derived.Test.YtjjkliifpdcliaaDoorFirst6
import Derived.Test.YtjjkliifpdcliaaDoorLight6
import Derived.Test.YtjjkliifpdcliaaDoorOpenC
import Derived.Test.YtjjkliifpdcliaaDoorRClean
namespace Go.Proofs.YtjjkliifpdcliaaDoor
open Go.RowKit

theorem tmodD (a n : Int) (h : 0 < n) : -n < a.tmod n ∧ a.tmod n < n := by
  have h1 := Int.tmod_lt_of_pos a h
  have h2 := Int.tmod_lt_of_pos (-a) h
  rw [Int.neg_tmod] at h2
  omega
theorem tmodD2 (a n : Int) (h : 0 < n) : 0 ≤ (a.tmod n + n).tmod n ∧ (a.tmod n + n).tmod n < n := by
  have h1 := tmodD a n h
  exact ⟨Int.tmod_nonneg _ (by omega), Int.tmod_lt_of_pos _ h⟩

/-- The graph in which nothing goes on at a. -/
def cutR (a : Int) (l : List Int) : List Int := l.filter fun k => k != a
def cutG (g : List (List Int)) (a : Int) : List (List Int) := g.map (cutR a)
theorem cutG_len (g : List (List Int)) (a : Int) : (cutG g a).length = g.length := by simp [cutG]
theorem cutG_get (g : List (List Int)) (a : Int) (i : Nat) (h : i < g.length) : (cutG g a).getD i [] = cutR a (g.getD i []) := by
  simp [cutG, List.getD_eq_getElem?_getD, h]
theorem cutR_snoc (a : Int) (l : List Int) (x : Int) : cutR a (l ++ [x]) = cutR a l ++ if (x != a) = true then [x] else [] := by
  unfold cutR
  rw [List.filter_append]
  congr 1
  by_cases h : (x != a) = true
  · rw [if_pos h]; simp [h]
  · rw [if_neg h]; simp [h]
theorem cutR_len (a : Int) (l : List Int) : (cutR a l).length ≤ l.length := List.length_filter_le _ _
theorem cut_ed (g : List (List Int)) (a : Nat) (p x : Nat) : Ed (cleanG (cutG g (a : Int))) p x ↔ Ed (cleanG g) p x ∧ x ≠ a := by
  rcases Nat.lt_or_ge p g.length with h | h
  · unfold Ed
    rw [cleanG_get _ p (by rw [cutG_len]; exact h), cleanG_get g p h, cutG_get g _ p h, cutG_len, (crow_spec _ _).2, (crow_spec _ _).2]
    unfold cutR
    rw [List.mem_filter]
    constructor
    · rintro ⟨h1, h2, h3⟩
      exact ⟨⟨h1, h2⟩, fun e => by subst e; simp at h3⟩
    · rintro ⟨⟨h1, h2⟩, h3⟩
      refine ⟨h1, h2, ?_⟩
      rw [bne_iff_ne]
      omega
  · constructor
    · intro hh
      have := (ed_lt hh).1
      rw [cutG_len] at this
      omega
    · intro hh
      have := (ed_lt hh.1).1
      omega
/-- Reached in the cut graph: reached without coming to a. -/
theorem cut_av (g : List (List Int)) (a b : Nat) (ha : a ≠ 0) (hg : 0 < g.length) : Av (Ed (cleanG (cutG g (a : Int)))) g.length b ↔ Av (Ed (cleanG g)) a b := by
  constructor
  · intro h
    induction h with
    | zero _ => exact .zero (fun e => ha e.symm)
    | step p x _ e _ ih => exact .step p x ih ((cut_ed g a p x).1 e).1 ((cut_ed g a p x).1 e).2
  · intro h
    induction h with
    | zero _ => exact .zero (by omega)
    | step p x _ e hne ih =>
      refine .step p x ih ((cut_ed g a p x).2 ⟨e, hne⟩) ?_
      have := (ed_lt e).2
      omega

/-- Rows of one's own are rows. -/
theorem OwnR.rows {w : World} {B : Nat} {v : Value} {vs : List Value} {xs : List (List Int)} (h : OwnR w B v vs xs) (hx : ∀ l ∈ xs, ∀ x ∈ l, -9223372036854775808 ≤ x ∧ x ≤ 9223372036854775807) (hl : ∀ l ∈ xs, l.length ≤ 100000) : RowsAt w v xs := by
  obtain ⟨p, c, rfl, hm⟩ := h.form
  refine ⟨p, c, rfl, hm, fun i hi => ?_⟩
  obtain ⟨gb, e, _, _, hc⟩ := h.cell i hi
  have hmem : xs.getD i [] ∈ xs := by
    rw [List.getD_eq_getElem?_getD, List.getElem?_eq_getElem hi]
    exact List.getElem_mem hi
  exact ⟨gb, 0, _, e, by rw [Nat.zero_add]; exact hc, (h.own i hi).rowIn (hx _ hmem) (by have := hl _ hmem; omega)⟩

open Classical in
theorem abB_self {c : List (List Nat)} (f : Nat → Nat) (b : Nat) : abB c f (b : Int) (b : Int) = true ↔ Rd c b := by
  unfold abB
  rw [decide_eq_true_eq]
  unfold aboveP thereP
  simp only [Int.toNat_natCast]
  exact ⟨fun h => h.1.2, fun h => ⟨⟨by omega, h⟩, ⟨by omega, h⟩, .refl⟩⟩
open Classical in
theorem abB_iff {c : List (List Nat)} (f : Nat → Nat) (a b : Nat) : abB c f (a : Int) (b : Int) = true ↔ Rd c a ∧ Rd c b ∧ Anc f a b := by
  unfold abB
  rw [decide_eq_true_eq]
  unfold aboveP thereP
  simp only [Int.toNat_natCast]
  exact ⟨fun h => ⟨h.1.2, h.2.1.2, h.2.2⟩, fun h => ⟨⟨by omega, h.1⟩, ⟨by omega, h.2.1⟩, h.2.2⟩⟩

open Classical in
set_option maxRecDepth 100000 in
set_option maxHeartbeats 8000000 in
theorem cutW_any (v : Value) (g : List (List Int)) (xa xb xc : Int) (w : World) (h : RowsAt w v g) (hcap : CapOk v) (hT : TzAt w) :
    Calls Tryd.prog 3 #[v, .int .i64 xa, .int .i64 xb, .int .i64 xc] w fun e w' => e = .returned (.bool true) ∧ Upd [] w w' := by
  obtain ⟨i0, hi0, hz0, hz1, hz2⟩ := info_parts Tryd.infoInt
  have HI := Lib.hid hi0
  have HZ0 := Lib.hid hz0
  have HZ1 := Lib.hid hz1
  have HZ2 := Lib.hid hz2
  clear hi0 hz0 hz1 hz2
  obtain ⟨i1, hi, hz0, hz1, hz2⟩ := info_parts Tryd.infoRow
  have JI := Lib.hid hi
  have JZ0 := Lib.hid hz0
  have JZ1 := Lib.hid hz1
  have JZ2 := Lib.hid hz2
  clear hi hz0 hz1 hz2
  have HH := Lib.hid h
  have HF := Lib.hid (first6_any w hT)
  obtain ⟨a, cap, rfl, _, hrows⟩ := id h
  have HROWS := Lib.hid hrows
  have hcp := hcap a g.length cap rfl
  have HCAP := Lib.hid hcp
  clear h hcap hT hcp hrows
  go_enter Tryd.func3, Tryd.ntmps3
  go_wp2_with fail
  refine HF.out.mono ?_
  rintro e w1 ⟨rfl, hu1⟩
  have HU1 := Lib.hid hu1
  have HLI := Lib.hid (light6_any _ g w1 (HH.out.upd hu1))
  clear hu1 HF
  go_wp2_with fail
  refine HLI.out.mono ?_
  rintro e w2 ⟨b, rfl, hb, hu2⟩
  have HU2 := Lib.hid (HU1.out.trans hu2)
  clear hu2 HLI HU1
  cases b with
  | false =>
    go_wp2_with fail
    go_ret
    exact ⟨rfl, HU2.out⟩
  | true =>
    obtain ⟨hn, hrb⟩ := hb rfl
    have HRB := Lib.hid hrb
    clear hb hrb
    by_cases hg0 : g.length = 0
    · have d0 : ((g.length : Int) == 0) = true := by rw [beq_iff_eq]; omega
      go_wp2_with fail
      go_ret
      exact ⟨rfl, HU2.out⟩
    · have d0 : ((g.length : Int) == 0) = false := by rw [beq_eq_false_iff_ne]; omega
      have hg1 : 0 < g.length := by omega
      have hgz : ¬ (g.length : Int) = 0 := by omega
      have hgz2 : (g.length : Int) ≠ 0 := by omega
      clear hg0
      have ta := tmodD xa g.length (by omega)
      have tb' := tmodD xb g.length (by omega)
      have tc := tmodD xc g.length (by omega)
      have ea : IntKind.i64.wrap (xa.tmod g.length + g.length) = xa.tmod g.length + g.length := IntWalk.i64_in _ (by omega)
      have eb : IntKind.i64.wrap (xb.tmod g.length + g.length) = xb.tmod g.length + g.length := IntWalk.i64_in _ (by omega)
      have ec : IntKind.i64.wrap (xc.tmod g.length + g.length) = xc.tmod g.length + g.length := IntWalk.i64_in _ (by omega)
      obtain ⟨na, hna⟩ := Int.eq_ofNat_of_zero_le (tmodD2 xa g.length (by omega)).1
      obtain ⟨nb, hnb⟩ := Int.eq_ofNat_of_zero_le (tmodD2 xb g.length (by omega)).1
      obtain ⟨nc, hnc⟩ := Int.eq_ofNat_of_zero_le (tmodD2 xc g.length (by omega)).1
      have la := (tmodD2 xa g.length (by omega)).2
      have lb := (tmodD2 xb g.length (by omega)).2
      have lc := (tmodD2 xc g.length (by omega)).2
      rw [hna] at la
      rw [hnb] at lb
      rw [hnc] at lc
      have HOF := Lib.hid (domOf_any a cap g w2 (HH.out.upd HU2.out) HCAP.out (by omega) (fun l hl => by have := HRB.out l hl; omega))
      go_wp2_with fail
      refine HOF.out.mono ?_
      rintro e w3 ⟨tb, f, rfl, hA, hu3⟩
      have HU3 := Lib.hid (HU2.out.trans hu3)
      have HA := Lib.hid hA
      have HLEN : Hid ((cutG g (na : Int)).length = g.length) := cutG_len g _
      clear hA hu3 HOF ea eb ec hna hnb hnc ta tb' tc hgz hgz2
      go_wp2_with fail
      go_loopw [12, 13] (fun ov iv wr => ∃ (i : Nat) (vs : List Value), i ≤ g.length ∧ iv = .int .i64 (i : Int) ∧ Hid (OwnR wr w3.heap.size ov vs ((cutG g (na : Int)).take i)) ∧ Hid (Upd [] w3 wr)) (fun _ iv _ => g.length - (intOf iv).toNat)
      case atStart => exact ⟨0, [], by omega, rfl, by rw [List.take_zero]; exact OwnR.nil _ _, Upd.refl _ _⟩
      case round =>
        obtain ⟨i, vs, hi, rfl, HO, HU⟩ := hrel
        obtain ⟨wo, rfl⟩ : ∃ wo : World, wo = wr := ⟨_, rfl⟩
        obtain ⟨op, oc, rfl, hom⟩ := HO.out.form
        unfold maxLen at hom
        by_cases hlt : i < g.length
        · obtain ⟨b, o, rv, rfl, hcell, a2, cap2, rfl, hl2, hx⟩ := HROWS.out i hlt
          have hcell := (HU3.out.trans HU.out).cell hcell (by simp)
          have HX := Lib.hid hx
          have hrl : (g.getD i []).length ≤ 200 := HRB.out _ (by
            rw [List.getD_eq_getElem?_getD, List.getElem?_eq_getElem hlt]
            exact List.getElem_mem hlt)
          have HTK : Hid ((cutG g (na : Int)).take (i + 1) = (cutG g (na : Int)).take i ++ [cutR (na : Int) (g.getD i [])]) := by
            show _ = _
            have h1 : i < (cutG g (na : Int)).length := by rw [HLEN.out]; exact hlt
            rw [List.take_succ_eq_append_getElem h1]
            have h2 := cutG_get g (na : Int) i hlt
            rw [List.getD_eq_getElem?_getD, List.getElem?_eq_getElem h1] at h2
            simp only [Option.getD_some] at h2
            rw [h2]
          have HTL : Hid (((cutG g (na : Int)).take i).length = i) := by show _ = _; rw [List.length_take, HLEN.out]; omega
          rw [HTL.out] at HO hom ⊢
          generalize hcc : (cutG g (na : Int)).take i = cc at HO HTK HTL
          have HCC := Lib.hid hcc
          clear hx hcc
          generalize g.getD i [] = row at hcell HX hrl HTK hl2
          have HCE := Lib.hid hcell
          clear hcell
          have hcell := HCE.out
          go_wp2_with fail
          go_loopw [14, 15] (fun lv kv wr => ∃ k : Nat, k ≤ row.length ∧ kv = .int .i64 (k : Int) ∧ Hid (OwnI wr wo.heap.size 3 lv (cutR (na : Int) (row.take k))) ∧ Hid (Upd [] wo wr)) (fun _ kv _ => row.length - (intOf kv).toNat)
          case atStart => exact ⟨0, by omega, rfl, OwnI.nil _ _ _, Upd.refl _ _⟩
          case round =>
            clear hcell
            obtain ⟨k, hk, rfl, HL, HV⟩ := hrel
            obtain ⟨wq, rfl⟩ : ∃ wq : World, wq = wr := ⟨_, rfl⟩
            have hcell := HV.out.cell HCE.out (by simp)
            have hWq := HV.out.size
            by_cases hkl : k < row.length
            · obtain ⟨b2, o2, rfl, hbd, hy0⟩ := HX.out k hkl
              have hy := HV.out.cell (HU.out.cell (HU3.out.cell hy0 (by simp)) (by simp)) (by simp)
              have HTK2 : Hid (row.take (k + 1) = row.take k ++ [row.getD k 0]) := by
                show _ = _
                rw [List.take_succ_eq_append_getElem hkl, List.getD_eq_getElem?_getD, List.getElem?_eq_getElem hkl]; rfl
              have HST := Lib.hid (cutR_snoc (na : Int) (row.take k) (row.getD k 0))
              rw [← HTK2.out] at HST
              have hcl := cutR_len (na : Int) (row.take k)
              rw [List.length_take] at hcl
              obtain ⟨lp, lc, hlv⟩ := HL.out.shape
              subst hlv
              clear hy0
              generalize row.getD k 0 = x at hy HST hbd
              generalize cutR (na : Int) (row.take k) = acc at HL HST hcl ⊢
              by_cases hxa : x = (na : Int)
              · have d1 : (x != (na : Int)) = false := by simpa using hxa
                rw [d1] at HST
                have HS2 : Hid (cutR (na : Int) (row.take (k + 1)) = acc) := by show _ = _; rw [HST.out]; simp
                clear HST hxa
                go_wp2_with fail
                go_roundw
                case rel => exact ⟨k + 1, by omega, by go_num, by rw [HS2.out]; exact HL, HV⟩
                case measure => simp [intOf]; omega
              · have d1 : (x != (na : Int)) = true := by simpa using hxa
                rw [d1] at HST
                have HS2 : Hid (cutR (na : Int) (row.take (k + 1)) = acc ++ [x]) := by show _ = _; rw [HST.out]; simp
                clear HST hxa
                go_wp2_with (at_builtin; refine stop_here ?_)
                refine Hid.mk ?_
                have hcn := cell_of (heap_alloc_new wq (.cells #[.int .i64 x] 3))
                refine (wpList_append_own_at _ rfl _ _ 27 rfl wo.heap.size 3 i0 (.int .i64 0) 1 8 Tryd.underlying27 HI.out HZ0.out HZ1.out HZ2.out rfl (by decide) _ _ _ rfl (HL.out.alloc (.cells #[.int .i64 x] 3)) ⟨wq.heap.size, 0, none⟩ 1 1 [.int .i64 x] rfl rfl ?c1 ?c2 ?c3 ?c4 ?c5 ?c6)
                case c1 =>
                  intro jj uu hjj
                  rw [Addr.add_lit, Nat.zero_add, hcn]
                  simpa using hjj
                case c2 => simp [Value.oneCell']
                case c3 => unfold maxLen; omega
                case c4 => omega
                case c5 => simp; omega
                case c6 =>
                  intro v' w6 hown hgr _ hat
                  have hU6 := (HV.out.alloc (.cells #[.int .i64 x] 3)).grown hgr (fun q hq => .inr (HL.out.lt q hq).1)
                  have hO6 := OwnI.snoc hown
                  obtain ⟨g', cap', rfl⟩ := ownsRow_succ hown
                  rw [← HS2.out] at hO6
                  have HO6 := Lib.hid hO6
                  have HU6 := Lib.hid hU6
                  clear hown hgr hat hU6 hO6 hcn hcell hy
                  go_wp2_with fail
                  go_roundw
                  case rel => exact ⟨k + 1, by omega, by go_num, HO6, HU6⟩
                  case measure => simp [intOf]; omega
            · obtain rfl : k = row.length := by omega
              rw [List.take_length] at HL
              have HOq := Lib.hid (HO.out.upd HV.out (by simp) (by simp))
              have hvl : vs.length = i := by have := HO.out.len; rw [HTL.out] at this; exact this
              have HVL := Lib.hid hvl
              have hrw := HOq.out.row
              rw [hvl] at hrw
              have HRW := Lib.hid hrw
              have HLB := Lib.hid (row_base HL.out HU.out.size)
              have hcl2 := cutR_len (na : Int) row
              obtain ⟨lp, lc, rfl⟩ := HL.out.shape
              clear hvl hrw
              go_wp2_with (at_builtin; refine stop_here ?_)
              refine Hid.mk ?_
              have hcn := cell_of (heap_alloc_new wq (.cells #[.slice lp (cutR (na : Int) row).length lc] 27))
              refine (wpList_append_own_at _ rfl _ _ 22 rfl w3.heap.size 27 i1 (.slice none 0 0) 1 24 Tryd.underlying22 JI.out JZ0.out JZ1.out JZ2.out rfl (by decide) _ _ _ rfl (HRW.out.alloc (.cells #[.slice lp (cutR (na : Int) row).length lc] 27)) ⟨wq.heap.size, 0, none⟩ 1 1 [.slice lp (cutR (na : Int) row).length lc] rfl rfl ?c1 ?c2 ?c3 ?c4 ?c5 ?c6)
              case c1 =>
                intro jj uu hjj
                rw [Addr.add_lit, Nat.zero_add, hcn]
                simpa using hjj
              case c2 => simp [Value.oneCell']
              case c3 => unfold maxLen; omega
              case c4 => omega
              case c5 => have := HU.out.size; simp; omega
              case c6 =>
                intro v' w6 hown hgr _ hat
                have hU6 := ((HU.out.trans HV.out).alloc (.cells #[.slice lp (cutR (na : Int) row).length lc] 27)).grown hgr (fun q hq => .inr (HOq.out.row.lt q hq).1)
                have hO6 := HOq.out.snoc HLB.out (by rw [HVL.out]; exact hown) hgr
                rw [← HTK.out] at hO6
                have HO6 := Lib.hid hO6
                have HU6 := Lib.hid hU6
                clear hown hgr hat hU6 hO6 hcn hcell
                go_wp2_with fail
                go_roundw
                case rel => exact ⟨i + 1, _, by omega, by go_num, HO6, HU6⟩
                case measure => simp [intOf]; omega
        · obtain rfl : i = g.length := by omega
          have hO := HO.out
          have hTT : (cutG g (na : Int)).take g.length = cutG g (na : Int) := List.take_of_length_le (by rw [HLEN.out]; exact Nat.le_refl _)
          rw [hTT] at hO ⊢
          rw [HLEN.out] at hO ⊢
          have hmem : ∀ l ∈ cutG g (na : Int), ∃ r ∈ g, l = cutR (na : Int) r := fun l hl => by
            unfold cutG at hl
            obtain ⟨r, hr, rfl⟩ := List.mem_map.1 hl
            exact ⟨r, hr, rfl⟩
          have hrng : ∀ r ∈ g, ∀ x ∈ r, -9223372036854775808 ≤ x ∧ x ≤ 9223372036854775807 := fun r hr x hx => by
            obtain ⟨i, hi, rfl⟩ := List.getElem_of_mem hr
            obtain ⟨j, hj, rfl⟩ := List.getElem_of_mem hx
            obtain ⟨_, _, _, _, _, a2, cap2, _, _, hx⟩ := HROWS.out i hi
            have e1 : g.getD i [] = g[i] := by rw [List.getD_eq_getElem?_getD, List.getElem?_eq_getElem hi]; rfl
            rw [e1] at hx
            obtain ⟨_, _, _, hb, _⟩ := hx j hj
            rw [List.getD_eq_getElem?_getD, List.getElem?_eq_getElem hj] at hb
            exact hb
          have hRW := OwnR.rows (v := .slice op g.length oc) hO (fun l hl x hx => by
            obtain ⟨r, hr, rfl⟩ := hmem l hl
            exact hrng r hr x (List.mem_filter.1 hx).1) (fun l hl => by
            obtain ⟨r, hr, rfl⟩ := hmem l hl
            have h1 := cutR_len (na : Int) r
            have h2 := HRB.out r hr
            omega)
          have hlb : ∀ l ∈ cutG g (na : Int), l.length ≤ 100000 := fun l hl => by
            obtain ⟨r, hr, rfl⟩ := hmem l hl
            have h1 := cutR_len (na : Int) r
            have h2 := HRB.out r hr
            omega
          have HRW := Lib.hid hRW
          have HLB := Lib.hid hlb
          have HU4 := Lib.hid (HU3.out.trans HU.out)
          have HA4 := Lib.hid (HA.out.low (S := []) HU.out (by simp))
          have HWO := Lib.hid (without_any _ g wo (HH.out.upd HU4.out) (by omega) (fun l hl => by have := HRB.out l hl; omega) (-1) g.length (by omega) (fun x hx => by omega))
          clear hO hTT hmem hrng hRW hlb HO HU
          go_wp2_with fail
          refine HWO.out.mono ?_
          rintro e w5 ⟨rb, rfl, hrb, _, hu5⟩
          have HU5 := Lib.hid (HU4.out.trans hu5)
          have HA5 := Lib.hid (HA4.out.low (S := []) hu5 (by simp))
          have HRB5 := Lib.hid hrb
          have HWO2 := Lib.hid (without_any _ (cutG g (na : Int)) w5 (HRW.out.upd hu5) (by rw [HLEN.out]; omega) HLB.out (-1) g.length (by omega) (fun x hx => by rw [HLEN.out] at hx; omega))
          rw [HLEN.out] at HWO2
          clear hrb hu5 HWO
          go_wp2_with fail
          refine HWO2.out.mono ?_
          rintro e w6 ⟨lbk, rfl, hlb, _, hu6⟩
          have HU6 := Lib.hid (HU5.out.trans hu6)
          have HA6 := Lib.hid (HA5.out.low (S := []) hu6 (by simp))
          have hex : Exact (Rd (cleanG g)) (Ed (cleanG g)) (posn (cleanG g)) f := by
            obtain ⟨_, _, _, _, _, _, _, _, _, _, _, _, h2, _⟩ := HA6.out
            exact h2 (cleanG_ne hg1)
          have HEX := Lib.hid hex
          have hnb : nb < g.length := by omega
          have hall : w6.cell? ⟨rb, nb, none⟩ = some (.bool (decide (Rd (cleanG g) nb))) := by
            rw [cell_of (hu6.heap HRB5.out (by simp)), bcells_get _ _ (by rw [avL_len]; exact hnb), avL_get g _ _ hnb]
            have e : decide (Av (Ed (cleanG g)) g.length nb) = decide (Rd (cleanG g) nb) := decide_eq_decide.2 (reach_avG hg1 nb).symm
            rw [e]
          have hleft : w6.cell? ⟨lbk, nb, none⟩ = some (.bool (decide (Av (Ed (cleanG (cutG g (na : Int)))) g.length nb))) := by
            have hnb2 : nb < (cutG g (na : Int)).length := by rw [HLEN.out]; exact hnb
            rw [cell_of hlb, bcells_get _ _ (by rw [avL_len]; exact hnb2), avL_get _ _ _ hnb2]
          have HQ : Hid (∀ (x y : Int) (n : Nat), (-9223372036854775808 ≤ x ∧ x ≤ 9223372036854775807) → (-9223372036854775808 ≤ y ∧ y ≤ 9223372036854775807) → Calls Tryd.prog 12 #[.pointer (some ⟨tb, 0, none⟩), .int .i64 x, .int .i64 y] (w6.drewN n) fun e w' => e = .returned (.bool (abB (cleanG g) f x y)) ∧ ∃ m, w' = w6.drewN m) := fun x y n hx hy => above_q (cleanG g) (cleanG_clean g) (by rw [cleanG_len]; omega) _ tb f _ _ _ _ w6 HA6.out.g x y n hx hy
          have HAB : Hid (∀ (W : World) (x y : Int), Upd [] w6 W → (-9223372036854775808 ≤ x ∧ x ≤ 9223372036854775807) → (-9223372036854775808 ≤ y ∧ y ≤ 9223372036854775807) → Calls Tryd.prog 12 #[.pointer (some ⟨tb, 0, none⟩), .int .i64 x, .int .i64 y] W fun e w' => e = .returned (.bool (abB (cleanG g) f x y)) ∧ Upd [] w6 w') := fun W x y hW hx hy => by
            refine (above_any (cleanG g) (cleanG_clean g) (by rw [cleanG_len]; omega) _ tb f _ _ _ _ x y hx hy W (HA6.out.g.low (S := []) hW (by simp))).mono ?_
            rintro e w' ⟨rfl, hu⟩
            exact ⟨rfl, hW.trans hu⟩
          have ra : -9223372036854775808 ≤ (na : Int) ∧ (na : Int) ≤ 9223372036854775807 := by omega
          have rb' : -9223372036854775808 ≤ (nb : Int) ∧ (nb : Int) ≤ 9223372036854775807 := by omega
          have rc : -9223372036854775808 ≤ (nc : Int) ∧ (nc : Int) ≤ 9223372036854775807 := by omega
          have KB := abB_iff (c := cleanG g) f
          have hQbb : abB (cleanG g) f (nb : Int) (nb : Int) = decide (Rd (cleanG g) nb) := by
            by_cases hr : Rd (cleanG g) nb
            · rw [decide_eq_true hr]; exact (abB_self f nb).2 hr
            · rw [decide_eq_false hr]
              cases e : abB (cleanG g) f (nb : Int) (nb : Int) with
              | false => rfl
              | true => exact absurd ((abB_self f nb).1 e) hr
          have hQ0 : na = 0 → abB (cleanG g) f (na : Int) (nb : Int) = decide (Rd (cleanG g) nb) := fun e0 => by
            subst e0
            obtain ⟨par, hg⟩ := dfs_dg (cleanG_clean g) (cleanG_ne hg1)
            by_cases hr : Rd (cleanG g) nb
            · rw [decide_eq_true hr]
              exact (KB 0 nb).2 ⟨hg.r0, hr, anc_zero hex.tr _ nb rfl hr⟩
            · rw [decide_eq_false hr]
              cases e : abB (cleanG g) f ((0 : Nat) : Int) (nb : Int) with
              | false => rfl
              | true => exact absurd ((KB 0 nb).1 e).2.1 hr
          have hQ1 : na ≠ 0 → abB (cleanG g) f (na : Int) (nb : Int) = (decide (Rd (cleanG g) nb) && !decide (Av (Ed (cleanG (cutG g (na : Int)))) g.length nb)) := fun e0 => by
            have e1 : decide (Av (Ed (cleanG (cutG g (na : Int)))) g.length nb) = decide (Av (Ed (cleanG g)) na nb) := decide_eq_decide.2 (cut_av g na nb e0 hg1)
            rw [e1]
            by_cases hr : Rd (cleanG g) nb
            · rw [decide_eq_true hr, Bool.true_and]
              have h1 := hex.anc nb hr na
              by_cases hv : Av (Ed (cleanG g)) na nb
              · rw [decide_eq_true hv, Bool.not_true]
                cases e : abB (cleanG g) f (na : Int) (nb : Int) with
                | false => rfl
                | true => exact absurd hv (h1.1 ((KB na nb).1 e).2.2)
              · rw [decide_eq_false hv, Bool.not_false]
                have h2 := h1.2 hv
                exact (KB na nb).2 ⟨(h2.pl hex.tr hr).1, hr, h2⟩
            · rw [decide_eq_false hr, Bool.false_and]
              cases e : abB (cleanG g) f (na : Int) (nb : Int) with
              | false => rfl
              | true => exact absurd ((KB na nb).1 e).2.1 hr
          have K1 : abB (cleanG g) f (na : Int) (nb : Int) = true → abB (cleanG g) f (nb : Int) (nc : Int) = true → abB (cleanG g) f (na : Int) (nc : Int) = true := fun h1 h2 => by
            have q1 := (KB na nb).1 h1
            have q2 := (KB nb nc).1 h2
            exact (KB na nc).2 ⟨q1.1, q2.2.1, q1.2.2.trans q2.2.2⟩
          have K2 : na ≠ nb → abB (cleanG g) f (na : Int) (nb : Int) = true → abB (cleanG g) f (nb : Int) (na : Int) = false := fun hne h1 => by
            have q1 := (KB na nb).1 h1
            cases e : abB (cleanG g) f (nb : Int) (na : Int) with
            | false => rfl
            | true =>
              have q2 := (KB nb na).1 e
              have p1 := (q1.2.2.pl hex.tr q1.2.1).2
              have p2 := (q2.2.2.pl hex.tr q2.2.1).2
              rcases p1 with p1 | p1
              · exact absurd p1 hne
              · rcases p2 with p2 | p2
                · exact absurd p2.symm hne
                · omega
          have K3 : abB (cleanG g) f (na : Int) (nc : Int) = true → abB (cleanG g) f (nb : Int) (nc : Int) = true → abB (cleanG g) f (na : Int) (nb : Int) = false → abB (cleanG g) f (nb : Int) (na : Int) = true := fun h1 h2 h3 => by
            have q1 := (KB na nc).1 h1
            have q2 := (KB nb nc).1 h2
            rcases Nat.le_total (posn (cleanG g) na) (posn (cleanG g) nb) with hp | hp
            · have q3 := anc_total hex.tr q1.2.2 q2.2.2 q1.2.1 hp
              rw [(KB na nb).2 ⟨q1.1, q2.1, q3⟩] at h3
              cases h3
            · exact (KB nb na).2 ⟨q2.1, q1.1, anc_total hex.tr q2.2.2 q1.2.2 q1.2.1 hp⟩
          have HK1 := Lib.hid K1
          have HK2 := Lib.hid K2
          have HK3 := Lib.hid K3
          have HQ0 := Lib.hid hQ0
          have HQ1 := Lib.hid hQ1
          have HQB := Lib.hid hQbb
          clear hlb hu6 HWO2 hex KB K1 K2 K3 hQ0 hQ1 hQbb HA HA4 HA5
          go_upto_region 24 with fail
          go_cut [150] from 100 to 149 (fun tv wx => Hid (tv = .bool false ∧ Upd [] w6 wx))
          case first =>
            generalize decide (Av (Ed (cleanG (cutG g (na : Int)))) g.length nb) = lv at hleft HQ1
            have dd : ((!lv) != (!lv)) = false := by cases lv <;> rfl
            cases hrv : decide (Rd (cleanG g) nb)
            all_goals
              rw [hrv] at hall HQB HQ0 HQ1
              have hbb := HQB.out
              by_cases e0 : na = 0
              · have hab := HQ0.out e0
                have d2 : ((na : Int) != 0) = false := by simpa using e0
                have d3 : ((na : Int) == 0) = true := by simpa using e0
                by_cases eab : na = nb
                · have d1 : ((na : Int) != (nb : Int)) = false := by simp [eab]
                  clear eab e0 hrv
                  go_wp2_with fail
                  go_quiet ((go_at_call 12; exact HQ.out _ _ _ (by assumption) (by assumption)))
                  go_wp2_with fail
                  go_meet
                  exact ⟨rfl, (Upd.refl [] w6).drewN _⟩
                · have d1 : ((na : Int) != (nb : Int)) = true := by simpa using fun h => eab (by omega)
                  clear eab e0 hrv
                  go_wp2_with fail
                  go_quiet ((go_at_call 12; exact HQ.out _ _ _ (by assumption) (by assumption)))
                  go_wp2_with fail
                  go_meet
                  exact ⟨rfl, (Upd.refl [] w6).drewN _⟩
              · have hab := HQ1.out e0
                simp only [Bool.true_and, Bool.false_and] at hab
                have d2 : ((na : Int) != 0) = true := by simpa using fun h => e0 (by omega)
                have d3 : ((na : Int) == 0) = false := by simpa using fun h => e0 (by omega)
                by_cases eab : na = nb
                · have d1 : ((na : Int) != (nb : Int)) = false := by simp [eab]
                  clear eab e0 hrv
                  go_wp2_with fail
                  go_quiet ((go_at_call 12; exact HQ.out _ _ _ (by assumption) (by assumption)))
                  go_wp2_with fail
                  go_meet
                  exact ⟨rfl, (Upd.refl [] w6).drewN _⟩
                · have d1 : ((na : Int) != (nb : Int)) = true := by simpa using fun h => eab (by omega)
                  clear eab e0 hrv
                  go_wp2_with fail
                  go_quiet ((go_at_call 12; exact HQ.out _ _ _ (by assumption) (by assumption)))
                  go_wp2_with fail
                  go_meet
                  exact ⟨rfl, (Upd.refl [] w6).drewN _⟩
          case rest =>
            obtain ⟨e, hu0⟩ := hcut.out
            subst e
            clear hcut hall hleft HQ0 HQ1 HQB
            by_cases eab : na = nb
            · have d1 : ((na : Int) != (nb : Int)) = false := by simp [eab]
              clear eab
              cases hP : abB (cleanG g) f (na : Int) (nb : Int) with
              | false =>
                cases hS : abB (cleanG g) f (na : Int) (nc : Int) with
                | false =>
                  go_wp2_with (go_at_call 12; refine (HAB.out _ _ _ (by assumption) (by assumption) (by assumption)).mono ?_; rintro e w' ⟨rfl, hu'⟩)
                  go_ret
                  exact ⟨rfl, HU6.out.trans (by assumption)⟩
                | true =>
                  cases hQ : abB (cleanG g) f (nb : Int) (nc : Int) with
                  | false =>
                    go_wp2_with (go_at_call 12; refine (HAB.out _ _ _ (by assumption) (by assumption) (by assumption)).mono ?_; rintro e w' ⟨rfl, hu'⟩)
                    go_ret
                    exact ⟨rfl, HU6.out.trans (by assumption)⟩
                  | true =>
                    have hT := HK3.out hS hQ hP
                    go_wp2_with (go_at_call 12; refine (HAB.out _ _ _ (by assumption) (by assumption) (by assumption)).mono ?_; rintro e w' ⟨rfl, hu'⟩)
                    go_ret
                    exact ⟨rfl, HU6.out.trans (by assumption)⟩
              | true =>
                cases hQ : abB (cleanG g) f (nb : Int) (nc : Int) with
                | true =>
                  have hS := HK1.out hP hQ
                  go_wp2_with (go_at_call 12; refine (HAB.out _ _ _ (by assumption) (by assumption) (by assumption)).mono ?_; rintro e w' ⟨rfl, hu'⟩)
                  go_ret
                  exact ⟨rfl, HU6.out.trans (by assumption)⟩
                | false =>
                  cases hS : abB (cleanG g) f (na : Int) (nc : Int) with
                  | false =>
                    go_wp2_with (go_at_call 12; refine (HAB.out _ _ _ (by assumption) (by assumption) (by assumption)).mono ?_; rintro e w' ⟨rfl, hu'⟩)
                    go_ret
                    exact ⟨rfl, HU6.out.trans (by assumption)⟩
                  | true =>
                    go_wp2_with (go_at_call 12; refine (HAB.out _ _ _ (by assumption) (by assumption) (by assumption)).mono ?_; rintro e w' ⟨rfl, hu'⟩)
                    go_ret
                    exact ⟨rfl, HU6.out.trans (by assumption)⟩
            · have d1 : ((na : Int) != (nb : Int)) = true := by simpa using fun h => eab (by omega)
              cases hP : abB (cleanG g) f (na : Int) (nb : Int) with
              | false =>
                clear eab
                cases hS : abB (cleanG g) f (na : Int) (nc : Int) with
                | false =>
                  go_wp2_with (go_at_call 12; refine (HAB.out _ _ _ (by assumption) (by assumption) (by assumption)).mono ?_; rintro e w' ⟨rfl, hu'⟩)
                  go_ret
                  exact ⟨rfl, HU6.out.trans (by assumption)⟩
                | true =>
                  cases hQ : abB (cleanG g) f (nb : Int) (nc : Int) with
                  | false =>
                    go_wp2_with (go_at_call 12; refine (HAB.out _ _ _ (by assumption) (by assumption) (by assumption)).mono ?_; rintro e w' ⟨rfl, hu'⟩)
                    go_ret
                    exact ⟨rfl, HU6.out.trans (by assumption)⟩
                  | true =>
                    have hT := HK3.out hS hQ hP
                    go_wp2_with (go_at_call 12; refine (HAB.out _ _ _ (by assumption) (by assumption) (by assumption)).mono ?_; rintro e w' ⟨rfl, hu'⟩)
                    go_ret
                    exact ⟨rfl, HU6.out.trans (by assumption)⟩
              | true =>
                have hT := HK2.out eab hP
                clear eab
                cases hQ : abB (cleanG g) f (nb : Int) (nc : Int) with
                | true =>
                  have hS := HK1.out hP hQ
                  go_wp2_with (go_at_call 12; refine (HAB.out _ _ _ (by assumption) (by assumption) (by assumption)).mono ?_; rintro e w' ⟨rfl, hu'⟩)
                  go_ret
                  exact ⟨rfl, HU6.out.trans (by assumption)⟩
                | false =>
                  cases hS : abB (cleanG g) f (na : Int) (nc : Int) with
                  | false =>
                    go_wp2_with (go_at_call 12; refine (HAB.out _ _ _ (by assumption) (by assumption) (by assumption)).mono ?_; rintro e w' ⟨rfl, hu'⟩)
                    go_ret
                    exact ⟨rfl, HU6.out.trans (by assumption)⟩
                  | true =>
                    go_wp2_with (go_at_call 12; refine (HAB.out _ _ _ (by assumption) (by assumption) (by assumption)).mono ?_; rintro e w' ⟨rfl, hu'⟩)
                    go_ret
                    exact ⟨rfl, HU6.out.trans (by assumption)⟩

end Go.Proofs.YtjjkliifpdcliaaDoor
