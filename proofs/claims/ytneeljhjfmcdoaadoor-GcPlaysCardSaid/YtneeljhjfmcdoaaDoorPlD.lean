/- GcPlays: one thing is done. GcPlays: one thing of kind 3 is done. -/
import Derived.Test.YtneeljhjfmcdoaaDoorPlO
import Derived.Test.YtneeljhjfmcdoaaDoorRInts
/-! GcPlays: one thing is done. -/
namespace Go.Proofs.YtneeljhjfmcdoaaDoor
open Go.RowKit

/-- A play behind something that was done. -/
def PlEnd (w0 : World) (xb : Nat) (hv hmv cv mv : Value) (cb co kk : Nat) (cs : List ByteArray) (w' : World) : Prop :=
  ∃ L S R rv ov nv rs ts ps, PlAt w0 w' xb L hv hmv cv mv cb co S rv ov nv rs ts ps ∧ PlOk kk S R rs ts ps ∧ S.Even ∧ S.cs = cs

section
variable {w0 w : World} {xb : Nat} {L : HL} {hv hmv cv mv : Value} {cb co : Nat} {S : Hp} {rv ov nv : Value} {rs ts : List Int} {ps : List OP} {R : Int → Int → Prop} {kk : Nat}

theorem PlOk.keep (hk : PlOk kk S R rs ts ps) (hkk : kk ≤ 80) {S' : Hp} (hcs : S'.cs = S.cs) {R' : Int → Int → Prop} {rs' ts' : List Int} (hb : Bd S' R' (ps.map OP.o)) (hr : RtR R' rs' ts') (hl : rs'.length = rs.length) : PlOk (kk + 1) S' R' rs' ts' ps :=
  ⟨hb, hr, by have := hk.few; omega, by have := hk.fewr; omega, by omega, fun p hp => by rw [hcs]; exact hk.os p hp⟩
theorem PlOk.new (hk : PlOk kk S R rs ts ps) (hkk : kk ≤ 80) (hS : S.Ok) {S' : Hp} (hcs : S'.cs = S.cs) {c n r : Int} (hc : c < S.cs.length) (hn : 0 ≤ n ∧ n ≤ 15) {R' : Int → Int → Prop} {rs' : List Int}
    (hb : Bd S' R' (ps.map OP.o ++ [(c, fresh S.cs c (wantN S.cs c n).toNat)])) (hr : RtR R' (rs' ++ [r]) (ts ++ [((ps.map OP.o).length : Int)])) (hl : rs'.length = rs.length) (q : OP) (hq1 : q.c = c) (hq2 : q.xs = fresh S.cs c (wantN S.cs c n).toNat) :
    PlOk (kk + 1) S' R' (rs' ++ [r]) (ts ++ [(ps.length : Int)]) (ps ++ [q]) := by
  have hbd := want_bd hS hc hn.1
  refine ⟨?_, by rw [List.length_map] at hr; exact hr, by simp; exact hk.few, by simp; have := hk.fewr; omega, by omega, fun p hp => ?_⟩
  · rw [List.map_append]
    show Bd S' R' (ps.map OP.o ++ [(q.c, q.xs)])
    rw [hq1, hq2]; exact hb
  · rw [hcs]
    rcases List.mem_append.1 hp with h1 | h1
    · exact hk.os p h1
    · rw [List.mem_singleton.1 h1, hq1, hq2, fresh_len]
      refine ⟨hc, fun h0 => ?_, by omega⟩
      unfold wantN
      rw [if_pos h0]
      omega

theorem PlOk.put (hk : PlOk kk S R rs ts ps) (hkk : kk ≤ 80) (hS : S.Ok) {r v x : Int} {ob j : Nat} (hr : R r (ob : Int)) (hob : ob < ps.length) {qc : Int} {qx : List Int} {qv : Value} {qb : Nat} (hq : ps[ob]'hob = ⟨qc, qx, qv, qb⟩) (hj : j < qx.length)
    (hm : S.mayRaw r j v = true) (hv : if S.refB r j = true then R v x else v = x) : PlOk (kk + 1) (S.put r j v) R rs ts (ps.set ob ⟨qc, qx.set j x, qv, qb⟩) := by
  have hoget : (ps.map OP.o).getD ob (0, []) = (qc, qx) := by
    rw [List.getD_eq_getElem?_getD, List.getElem?_map, List.getElem?_eq_getElem hob, hq]; rfl
  have hb := hk.bd.put hS hr (by omega) (j := j) (v := v) (x := x) (by rw [Int.toNat_natCast, hoget]; exact hj) hv hm
  rw [Int.toNat_natCast, hoget] at hb
  refine ⟨by rw [List.map_set]; exact hb, hk.rt, by rw [List.length_set]; have := hk.few; omega, by have := hk.fewr; omega, by omega, fun p hp => ?_⟩
  rw [put_cs]
  rcases List.mem_or_eq_of_mem_set hp with h1 | h1
  · exact hk.os p h1
  · have h2 := hk.os _ (List.getElem_mem hob)
    rw [hq] at h2
    rw [h1]
    simpa using h2
theorem pl_may {r i v : Int} (hr : S.is r = true) (h0 : 0 ≤ i) (h1 : i < S.num r) (hv : S.refB r i = true → v = 0 ∨ (1 ≤ v ∧ v ≤ 65536 ∧ S.is v = true)) : S.mayRaw r i v = true := by
  unfold Hp.mayRaw
  rw [hr, decide_eq_true (⟨h0, h1⟩ : 0 ≤ i ∧ i < S.num r)]
  cases hf : S.refB r i with
  | false => simp
  | true =>
    rcases hv hf with h | ⟨h2, h3, h4⟩
    · rw [h]; simp
    · rw [h4, decide_eq_true (⟨h2, h3⟩ : 1 ≤ v ∧ v ≤ 65536)]; simp
theorem PlAt.setv (h : PlAt w0 w xb L hv hmv cv mv cb co S rv ov nv rs ts ps) {ob : Nat} (hob : ob < ps.length) {qc : Int} {qx : List Int} {qv : Value} {qb : Nat} (hq : ps[ob]'hob = ⟨qc, qx, qv, qb⟩) (j : Nat) (x : Int) :
    PlAt w0 (w.setCell ⟨qb, j, none⟩ (.int .i64 x)) xb L hv hmv cv mv cb co S rv ov nv rs ts (ps.set ob ⟨qc, qx.set j x, qv, qb⟩) := by
  have h9 := h.val ob hob j x
  rw [hq] at h9
  exact h9

theorem pl_shape (h : PlAt w0 w xb L hv hmv cv mv cb co S rv ov nv rs ts ps) (hk : PlOk kk S R rs ts ps) : ∃ pr cr, rv = .slice pr rs.length cr ∧ ∀ w', Upd [] w w' → Calls Tryd.prog 21 #[.pointer (some ⟨L.hb, 0, none⟩), .slice pr rs.length cr] w' fun e w'' => ∃ uv av ub ac ap, e = .returned (.tuple #[uv, .slice ap rs.length ac]) ∧ ObjsV w'' uv (S.shape rs).1 ∧ Upd [] w' w'' ∧ uv = .slice ub (S.shape rs).1.length av := by
  obtain ⟨pr, cr, rb, rfl, hpr, hcr⟩ := reach_own h
  refine ⟨pr, cr, rfl, fun w' hu => ?_⟩
  refine (gshape (h.gc.upd hu) pr cr rb rs (by have := hk.fewr; have := hk.k; omega) hpr (fun i hi => hu.cell (hcr i hi) (by simp)) (h.gc.rng (hk.rt.roots hk.bd))).mono ?_
  rintro e w'' ⟨uv, av, ps', ov', od, rfl, hout, hps, hu'⟩
  have h1 := hout.objsV hps
  obtain ⟨b, h2⟩ := hout.nums
  obtain ⟨q, k, e1⟩ := h1.shape
  obtain ⟨q2, k2, e2⟩ := h2.form
  rw [shape_nums] at e2
  exact ⟨uv, k, q, k2, q2, by rw [e2], h1, hu', e1⟩

theorem tup2 {a b c d : Value} (h : Value.tuple #[a, b] = Value.tuple #[c, d]) : a = c ∧ b = d := by simpa using h
theorem GcEnd.form {w0 w w' : World} {L : HL} {cv mv v : Value} {S : Hp} {all : Bool} {rs : List Int} (h : GcEnd w0 L cv mv S all rs w v w') : ∃ pu lu cu is, v = .tuple #[.slice pu lu cu, .bool is] := by
  rcases h with ⟨_, h, _⟩ | ⟨_, sc, M, bg, L2, u, _, h, ho, _⟩
  · exact ⟨none, 0, 0, false, h⟩
  · obtain ⟨p, c, e⟩ := ownI_shape ho
    exact ⟨p, _, c, true, by rw [h, e]⟩

theorem own_arg3 {w : World} {B : Nat} {e : TypeId} {p : Option Addr} {m c : Nat} {xs : List Int} (h : OwnI w B e (.slice p m c) xs) : m = xs.length ∧ ∃ rb, ((xs = [] ∧ p = none ∧ c = 0) ∨ p = some ⟨rb, 0, none⟩) ∧ (∀ i, i < xs.length → w.cell? ⟨rb, i, none⟩ = some (.int .i64 (xs.getD i 0))) := by
  obtain ⟨p', c', rb, h1, h2, h3⟩ := own_arg2 h
  injection h1 with e1 e2 e3
  subst e1 e3
  exact ⟨e2, rb, h2, h3⟩

theorem OwnI.froz {w : World} {B : Nat} {e : TypeId} {g m c : Nat} {xs : List Int} (h : OwnI w B e (.slice (some ⟨g, 0, none⟩) m c) xs) (k : Nat) : w.frozen? ⟨g, k, none⟩ = false := by
  rcases h.2 with ⟨h1, _⟩ | ⟨g', cap, cur, h1, h2, h3, _⟩
  · cases h1
  · injection h1 with e1 _ _
    injection e1 with e1
    injection e1 with e1 _ _
    subst e1
    exact froz_of h3 k
end
end Go.Proofs.YtneeljhjfmcdoaaDoor

/-! GcPlays: one thing of kind 3 is done. -/
namespace Go.Proofs.YtneeljhjfmcdoaaDoor
open Go.RowKit

section
variable {w0 w : World} {xb : Nat} {L : HL} {hv hmv cv mv : Value} {cb co : Nat} {S : Hp} {rv ov nv : Value} {rs ts : List Int} {ps : List OP} {R : Int → Int → Prop} {kk : Nat}
set_option maxRecDepth 100000 in
set_option maxHeartbeats 16000000 in
theorem do3_any (h : PlAt w0 w xb L hv hmv cv mv cb co S rv ov nv rs ts ps) (hk : PlOk kk S R rs ts ps) (he : S.Even) (hkk : kk ≤ 80) (a b n v : Int) :
    Calls Tryd.prog 30 #[.pointer (some ⟨xb, 0, none⟩), .agg #[.int .i64 3, .int .i64 a, .int .i64 b, .int .i64 n, .int .i64 v]] w fun e w' => e = .returned (.bool true) ∧ PlEnd w0 xb hv hmv cv mv cb co (kk + 1) S.cs w' := by
  obtain ⟨i0, hi, hz0, hz1, hz2⟩ := info_parts Tryd.infoInt
  have HI := Lib.hid hi
  have HZ0 := Lib.hid hz0
  have HZ1 := Lib.hid hz1
  have HZ2 := Lib.hid hz2
  clear hi hz0 hz1 hz2
  have hud := (Upd.refl [] w).alloc (.cells #[.int .i64 3, .int .i64 a, .int .i64 b, .int .i64 n, .int .i64 v] 75)
  have hd0 := heap_alloc_new w (.cells #[.int .i64 3, .int .i64 a, .int .i64 b, .int .i64 n, .int .i64 v] 75)
  have HBX : Hid (xb < w.heap.size ∧ (∀ i ∈ L.all, i < w.heap.size)) := ⟨h.lt, h.gc.hi⟩
  have HNW := Lib.hid h.new
  obtain ⟨cp, cc, hcve⟩ := h.cls.shape
  subst hcve
  obtain ⟨pr, cr, hre⟩ := ownI_shape h.rt
  subst hre
  obtain ⟨po, pc, hoe⟩ := h.ob.form
  subst hoe
  obtain ⟨pn, cn, hne⟩ := ownI_shape h.nm
  subst hne
  have hrl := hk.fewr
  have htl : ts.length = rs.length := hk.rt.1.symm
  have hpl := hk.few
  have hS := h.gc.hp.ok
  have hfew := hS.few
  have HP1 := Lib.hid (h.upd hud)
  have HK := Lib.hid hk
  have HE := Lib.hid he
  have HSK := Lib.hid hS
  have hcn : -2 ≤ (0 : Int) := by omega
  clear h hk he hS hud hcn
  have HD := Lib.hid hd0
  have d0 := cell_of hd0 0
  have d1 := cell_of hd0 1
  have d2 := cell_of hd0 2
  have d3 := cell_of hd0 3
  have d4 := cell_of hd0 4
  clear hd0
  obtain ⟨x0, x1, x2, x3, x4, x5⟩ := HP1.out.cells
  go_enter Tryd.func30, Tryd.ntmps30
  have dk1 : ((3 : Int) == 1) = false := by decide
  have dk2 : ((3 : Int) == 2) = false := by decide
  have dk3 : ((3 : Int) == 3) = true := rfl
  by_cases hr0 : rs.length = 0
  · have e1 : decide ((rs.length : Int) > 0) = false := decide_eq_false (by omega)
    have HEND : Hid (PlEnd w0 xb hv hmv (.slice cp S.cs.length cc) mv cb co (kk + 1) S.cs (w.alloc (.cells #[.int .i64 3, .int .i64 a, .int .i64 b, .int .i64 n, .int .i64 v] 75))) :=
      ⟨L, S, R, _, _, _, _, _, _, HP1.out, HK.out.keep hkk rfl HK.out.bd HK.out.rt rfl, HE.out, rfl⟩
    go_wp2_with fail
    go_ret
    exact ⟨rfl, HEND.out⟩
  · have e1 : decide ((rs.length : Int) > 0) = true := decide_eq_true (by omega)
    have hq0 := Int.emod_nonneg a (show (rs.length : Int) ≠ 0 by omega)
    have hq1 := Int.emod_lt_of_pos a (show (0 : Int) < (rs.length : Int) by omega)
    generalize hqe : a % (rs.length : Int) = q at hq0 hq1
    have HQE := Lib.hid hqe
    clear hqe
    obtain ⟨k, rfl⟩ : ∃ k : Nat, q = (k : Int) := ⟨q.toNat, by omega⟩
    have hkr : k < rs.length := by omega
    have hkt : k < ts.length := by omega
    obtain ⟨-, rb, hpr, hcr⟩ := own_arg3 HP1.out.rt
    obtain rfl : pr = some ⟨rb, 0, none⟩ := by
      rcases hpr with ⟨h1, _⟩ | h1
      · rw [h1] at hr0; exact absurd rfl hr0
      · exact h1
    have c3 := hcr k hkr
    have z3 := HP1.out.rt.froz k
    obtain ⟨ht1, nb, hpn, hcn⟩ := own_arg3 HP1.out.nm
    obtain rfl : pn = some ⟨nb, 0, none⟩ := by
      rcases hpn with ⟨h1, _⟩ | h1
      · rw [h1] at hkt; cases hkt
      · exact h1
    have HC5 := Lib.hid (hcn k hkt)
    clear hpr hcr hpn hcn
    go_wp2_with fail
    refine (number_any a (rs.length : Int) _ (by omega) (by omega)).mono ?_
    rintro e w' ⟨rfl, rfl⟩
    rw [HQE.out]
    clear hq0 hq1 HQE
    generalize w.alloc (.cells #[.int .i64 3, .int .i64 a, .int .i64 b, .int .i64 n, .int .i64 v] 75) = w1 at HP1 HD d0 d1 d2 d3 d4 x0 x1 x2 x3 x4 x5 c3 z3 HC5 ⊢
    go_upto_region 60 with fail
    have HPa := Lib.hid (HP1.out.root0 rfl k 0)
    have hn := HP1.out.new
    have hne : nb ≠ rb := fun e => own_ne HP1.out.nm HP1.out.rt (by decide) nb rfl (by rw [e]; rfl)
    have hc5 := ((Upd.refl [rb] w1).setCell (p := ⟨rb, k, none⟩) (.inl (by simp)) (.int .i64 0)).cell HC5.out (by simpa using hne)
    clear x0 x1 x2 x3 x4 x5 d0 d1 d2 d3 d4 c3 z3 HC5 HP1 HD hn
    generalize w1.setCell ⟨rb, k, none⟩ (.int .i64 0) = w2 at HPa hc5 ⊢
    obtain ⟨x0, x1, x2, x3, x4, x5⟩ := HPa.out.cells
    have z5 := HPa.out.nm.froz k
    have HPb := Lib.hid (HPa.out.num1 (by rw [htl]) k (-1))
    have HEND : Hid (PlEnd w0 xb hv hmv (.slice cp S.cs.length cc) mv cb co (kk + 1) S.cs (w2.setCell ⟨nb, k, none⟩ (.int .i64 (-1)))) :=
      ⟨L, S, R, _, _, _, _, _, _, HPb.out, HK.out.keep hkk rfl HK.out.bd (HK.out.rt.drop HK.out.bd.zero k) (List.length_set ..), HE.out, rfl⟩
    clear HPa HPb
    go_wp2_with fail
    go_ret
    exact ⟨rfl, HEND.out⟩
end
end Go.Proofs.YtneeljhjfmcdoaaDoor
