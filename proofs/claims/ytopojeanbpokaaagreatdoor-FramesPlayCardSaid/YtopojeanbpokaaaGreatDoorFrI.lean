/- A stack of frames: a frame is laid on top (plain). A stack of frames: Push. A stack of frames: each. A stack of frames: Roots. A stack of frames: its references are set (plain, and in memory). A stack of frames: SetRoots, where there are as many. -/
import Derived.Test.YtopojeanbpokaaaGreatDoorFrA
import Derived.Test.YtopojeanbpokaaaGreatDoorSentA
/-! A stack of frames: a frame is laid on top (plain). -/
/-! A stack of frames: a frame is laid on top (plain). -/
namespace Go.Proofs.YtopojeanbpokaaaGreatDoor
open Go.RowKit

theorem FrsAt.has_ne {w : World} {B : Nat} {lv : Value} {fs : List Fr} {vs : List FrV} (h : FrsAt w B lv fs vs) {i : Nat} (hi : i < fs.length) {b : Nat} (hb : (vs.getD i default).has b) : lv.ownBlock ≠ some b := by
  rcases h.row.2 with ⟨h1, _⟩ | ⟨g1, c1, cur, h1, h2, h3, _⟩
  · rw [h1]
    intro e
    cases e
  · intro e
    rw [h1] at e
    simp only [Value.ownBlock, Option.some.injEq] at e
    subst e
    subst h1
    exact h.own_ne hi hb
/-- A frame without values is laid on top. -/
theorem FrsAt.push {w w2 : World} {B : Nat} {lv lv' : Value} {fs : List Fr} {vs : List FrV} {o : Obj} (f : Fr) (v : FrV) (h : FrsAt w B lv fs vs) (hv : OwnSl w B v.lv f.loc) (hs : v.sv = .slice none 0 0) (hs2 : f.stk = [])
    (hap : ∀ b, v.lv.ownBlock = some b → ∀ i, i < fs.length → ¬ (vs.getD i default).has b) (hne : ∀ b, v.lv.ownBlock = some b → lv.ownBlock ≠ some b)
    (hown : w2.ownsRow B 110 4 lv' (fs.length + 1) (frcells fs vs ++ fr4 f v)) (hgr : (w.alloc o).grownBy w2 lv.ownBlock) :
    FrsAt w2 B lv' (fs ++ [f]) (vs ++ [v]) ∧ Upd lv.ownBlock.toList w w2 := by
  have hl := h.len
  have hu2 : Upd lv.ownBlock.toList w w2 := ((Upd.refl _ w).alloc o).grown hgr (fun q hq => Or.inl (Option.mem_toList.2 hq))
  have vi : ∀ {i}, i < fs.length → (vs ++ [v]).getD i default = vs.getD i default := fun hi => getD_snoc_lt _ _ _ _ (by omega)
  have fi : ∀ {i}, i < fs.length → (fs ++ [f]).getD i default = fs.getD i default := fun hi => getD_snoc_lt _ _ _ _ hi
  have vl : (vs ++ [v]).getD fs.length default = v := by rw [← hl]; exact getD_snoc_eq _ _ _
  have fl : (fs ++ [f]).getD fs.length default = f := getD_snoc_eq _ _ _
  have hsb : ∀ b, ¬ v.sv.ownBlock = some b := fun b e => by rw [hs] at e; cases e
  refine ⟨⟨?_, by simp [hl], fun i hi => ?_, fun i hi => ?_, fun i hi b hb => ?_, fun i j hi hj hij b hb => ?_⟩, hu2⟩
  · rw [frcells_snoc _ _ _ _ hl, List.length_append]
    exact hown
  · by_cases e : i < fs.length
    · rw [vi e, fi e]
      exact (h.loc i e).upd hu2 (fun k hk hm => h.has_ne e (.inl hk) (Option.mem_toList.1 hm))
    · have e2 : i = fs.length := by simp at hi; omega
      subst e2
      rw [vl, fl]
      exact hv.upd hu2 (fun k hk hm => hne k hk (Option.mem_toList.1 hm))
  · by_cases e : i < fs.length
    · rw [vi e, fi e]
      exact (h.stk i e).upd hu2 (fun k hk hm => h.has_ne e (.inr hk) (Option.mem_toList.1 hm))
    · have e2 : i = fs.length := by simp at hi; omega
      subst e2
      rw [vl, fl, hs, hs2]
      exact OwnSl.nil _ _
  · by_cases e : i < fs.length
    · rw [vi e] at hb ⊢
      exact h.two i e b hb
    · have e2 : i = fs.length := by simp at hi; omega
      subst e2
      rw [vl]
      exact hsb b
  · by_cases e : i < fs.length
    · rw [vi e] at hb
      by_cases e2 : j < fs.length
      · rw [vi e2]
        exact h.apart i j e e2 hij b hb
      · have e3 : j = fs.length := by simp at hj; omega
        subst e3
        rw [vl]
        rintro (hb2 | hb2)
        · exact hap b hb2 i e hb
        · exact hsb b hb2
    · have e3 : i = fs.length := by simp at hi; omega
      subst e3
      rw [vl] at hb
      have e2 : j < fs.length := by simp at hj; omega
      rw [vi e2]
      rcases hb with hb | hb
      · exact hap b hb j e2
      · exact absurd hb (hsb b)

/-- The zero slots of a frame's locals. -/
def zeroL (s : ByteArray) : List Slt := s.toList.map fun c => ⟨((c.toNat : Int) == 82), 0⟩
theorem zeroL_len (s : ByteArray) : (zeroL s).length = s.size := by
  unfold zeroL
  rw [List.length_map, ← size_list]
theorem zeroL_take (s : ByteArray) (j : Nat) (h : j < s.size) : (zeroL s).take (j + 1) = (zeroL s).take j ++ [⟨(((s[j]'h).toNat : Int) == 82), 0⟩] := by
  obtain ⟨l, rfl⟩ : ∃ l, s = bs l := ⟨s.toList, (bs_of s).symm⟩
  rw [bs_byte]
  have hl : j < l.length := by rwa [bs_size] at h
  unfold zeroL
  rw [bs_list, List.take_succ_eq_append_getElem (by rw [List.length_map]; exact hl), List.getElem_map, List.getD_eq_getElem?_getD, List.getElem?_eq_getElem hl]
  rfl
theorem StkOk.push {p : Prg} {ss : List Lk} {limit words : Int} {fs : List Fr} (h : StkOk p ss limit words fs) (f : Fr) (hf : f.m < p.ms.length) (hr : frW p ss f.m ≤ limit - words) : StkOk p ss limit (words + frW p ss f.m) (fs ++ [f]) := by
  have h1 := h.wd
  have h2 : 0 ≤ frW p ss f.m := by unfold frW; omega
  refine ⟨h.len, h.ok, h.look, fun x hx => ?_, h.lim, by omega, ?_⟩
  · rcases List.mem_append.1 hx with hx | hx
    · exact h.meth x hx
    · rw [List.mem_singleton] at hx
      rw [hx]
      exact hf
  · rw [List.map_append, List.sum_append, h.sum]
    simp
end Go.Proofs.YtopojeanbpokaaaGreatDoor

/-! A stack of frames: Push. -/
/-! A stack of frames: Push. -/
namespace Go.Proofs.YtopojeanbpokaaaGreatDoor
open Go.RowKit

theorem Tryz.infoFr : (Tryz.prog.info? 110).map (fun i => (i.zero, i.size, i.bytes)) = some (some (.agg #[.int .i64 0, .int .i64 0, .slice none 0 0, .slice none 0 0]), 4, 64) := by kernel_rfl
theorem fr_new (w : World) (k : Nat) (v : Value) : ∀ j u, [Value.int .i64 k, .int .i64 0, v, .slice none 0 0][j]? = some u → (w.alloc (.cells #[.int .i64 k, .int .i64 0, v, .slice none 0 0] 110)).cell? ((⟨w.heap.size, 0, none⟩ : Addr).add j) = some u := by
  intro j u hj
  rw [Addr.add_lit, Nat.zero_add, cell_of (heap_alloc_new w _)]
  simpa using hj
theorem sum_four : ∀ l : List Int, (∀ x ∈ l, 4 ≤ x) → 4 * (l.length : Int) ≤ l.sum
  | [], _ => by simp
  | x :: l, h => by
    have h1 := h x (by simp)
    have h2 := sum_four l (fun y hy => h y (by simp [hy]))
    rw [List.sum_cons, List.length_cons]
    omega
theorem StkOk.few {p : Prg} {ss : List Lk} {limit words : Int} {fs : List Fr} (h : StkOk p ss limit words fs) : fs.length ≤ 16384 := by
  have h1 := sum_four (fs.map fun f => frW p ss f.m) (fun x hx => by
    obtain ⟨y, _, rfl⟩ := List.mem_map.1 hx
    unfold frW
    omega)
  rw [← h.sum, List.length_map] at h1
  have := h.wd
  have := h.lim
  omega
theorem OwnSl.low {w : World} {B B' : Nat} {v : Value} {xs : List Slt} (h : OwnSl w B v xs) (hB : B' ≤ B) : OwnSl w B' v xs := by
  obtain ⟨h0, h1⟩ := h
  refine ⟨h0, ?_⟩
  rcases h1 with h1 | ⟨g, c, cur, h1, h2, h3⟩
  · exact .inl h1
  · exact .inr ⟨g, c, cur, h1, by omega, h3⟩
theorem OwnSl.typed {w : World} {B : Nat} {v : Value} {xs : List Slt} (h : OwnSl w B v xs) {b : Nat} (hb : v.ownBlock = some b) : ∃ cur, w.heap[b]? = some (.cells cur 44) := by
  rcases h.2 with ⟨h1, _⟩ | ⟨g, c, cur, h1, h2, h3, _⟩
  · rw [h1] at hb
    cases hb
  · rw [h1] at hb
    simp only [Value.ownBlock, Option.some.injEq] at hb
    subst hb
    exact ⟨cur, h3⟩
theorem push_apart {w4 w : World} {B : Nat} {lv u : Value} {fs : List Fr} {vs : List FrV} {xs : List Slt} (h : FrsAt w4 B lv fs vs) (ho : OwnSl w w4.heap.size u xs) : ∀ b, u.ownBlock = some b → ∀ i, i < fs.length → ¬ (vs.getD i default).has b := fun b hb i hi hh => by
  have h1 := (World.ownsRow.lt ho b hb).1
  rcases hh with h2 | h2
  · have := (World.ownsRow.lt (h.loc i hi) b h2).2; omega
  · have := (World.ownsRow.lt (h.stk i hi) b h2).2; omega
theorem push_ne {w : World} {B B' : Nat} {lv u : Value} {fs : List Fr} {vs : List FrV} {xs : List Slt} (h : FrsAt w B lv fs vs) (ho : OwnSl w B' u xs) : ∀ b, u.ownBlock = some b → lv.ownBlock ≠ some b := fun b hb => by
  obtain ⟨cur, hc⟩ := ho.typed hb
  exact own_heap_ne h.row hc (by decide)
/-- A frame that has just been laid. -/
def newFr (p : Prg) (k : Nat) (xs : List Slt) : Fr := ⟨k, 0, xs ++ zeroL (p.ms.getD k default).locals, []⟩
/-- What Push does, where the method is there and its arguments fit. -/
def PushEnd (E : Nat → Addr) (W0 w : World) (sb ib : Nat) (p : Prg) (ss : List Lk) (n0 n : Int) (cv mv : Value) (limit words : Int) (lv : Value) (fs : List Fr) (vs : List FrV) (k : Nat) (xs : List Slt) (e : Ending) (w' : World) : Prop :=
  ((frW p ss k ≤ limit - words ∧ e = .returned .nilIface ∧ (∃ lv' v', StkAt W0 w' sb ib p ss n0 (n + 1) cv mv limit (words + frW p ss k) lv' (fs ++ [newFr p k xs]) (vs ++ [v'])) ∧ StkOk p ss limit (words + frW p ss k) (fs ++ [newFr p k xs])) ∨
   (limit - words < frW p ss k ∧ e = .returned (sErr E 13) ∧ StkAt W0 w' sb ib p ss n0 (n + 1) cv mv limit words lv fs vs)) ∧ ∃ T, (∀ t ∈ T, t = ib ∨ sb ≤ t) ∧ Upd T w w'
def PushOwn (E : Nat → Addr) (W0 w : World) (sb ib : Nat) (p : Prg) (ss : List Lk) (n0 n : Int) (cv mv : Value) (limit words : Int) (lv : Value) (fs : List Fr) (vs : List FrV) (k : Nat) (xs : List Slt) (e : Ending) (w' : World) : Prop :=
  ((frW p ss k ≤ limit - words ∧ e = .returned .nilIface ∧ (∃ lv' v', ((lv'.ownBlock = lv.ownBlock ∨ ∃ b, lv'.ownBlock = some b ∧ w.heap.size ≤ b) ∧ ∀ b, v'.has b → w.heap.size ≤ b) ∧ StkAt W0 w' sb ib p ss n0 (n + 1) cv mv limit (words + frW p ss k) lv' (fs ++ [newFr p k xs]) (vs ++ [v'])) ∧ StkOk p ss limit (words + frW p ss k) (fs ++ [newFr p k xs])) ∨
   (limit - words < frW p ss k ∧ e = .returned (sErr E 13) ∧ StkAt W0 w' sb ib p ss n0 (n + 1) cv mv limit words lv fs vs)) ∧ ∃ T, (∀ t ∈ T, t = ib ∨ t = sb ∨ (lv.ownBlock = some t ∧ sb < t)) ∧ Upd T w w'

set_option maxRecDepth 100000 in
set_option maxHeartbeats 4000000 in
theorem spush_own (E : Nat → Addr) (W0 w : World) (sb ib : Nat) (p : Prg) (ss : List Lk) (n0 n : Int) (cv mv : Value) (limit words : Int) (lv : Value) (fs : List Fr) (vs : List FrV) (k : Nat) (av : Value) (ab : Nat) (xs : List Slt)
    (h : StkAt W0 w sb ib p ss n0 n cv mv limit words lv fs vs) (hok : StkOk p ss limit words fs) (hS : SentP w E) (hk : k < p.ms.length) (ha : SltV w av ab xs) (ha2 : xs = [] ∨ ab ≠ ib)
    (hal : xs.length = (p.ms.getD k default).params.size) (hfit : ∀ i (hi : i < (p.ms.getD k default).params.size), fitsB (xs.getD i default) ((((p.ms.getD k default).params[i]'hi).toNat : Int)) = true) (h0 : 0 ≤ n) (h1 : n ≤ 900000000) :
    Calls Tryz.prog 9 #[.pointer (some ⟨sb, 0, none⟩), .int .i64 k, av] w (PushOwn E W0 w sb ib p ss n0 n cv mv limit words lv fs vs k xs) := by
  obtain ⟨i0, hi, hz0, hz1, hz2⟩ := info_parts Tryz.infoSlot
  have HI := Lib.hid hi
  have HZ0 := Lib.hid hz0
  have HZ1 := Lib.hid hz1
  have HZ2 := Lib.hid hz2
  clear hi hz0 hz1 hz2
  obtain ⟨i1, hi, hz0, hz1, hz2⟩ := info_parts Tryz.infoFr
  have HJ := Lib.hid hi
  have HJ0 := Lib.hid hz0
  have HJ1 := Lib.hid hz1
  have HJ2 := Lib.hid hz2
  clear hi hz0 hz1 hz2
  obtain ⟨p5, c5, rfl⟩ := h.frs.shape
  obtain ⟨b, o, mc, ka, kc, rfl, q0, q1, q2, q3⟩ := h.meth hk
  have hcw := hok.ok.code1 k hk
  have hsz := hok.ok.sizes k
  have hmost := hok.most hk
  have hmany := hok.ok.many
  have HFW : Hid (frW p ss k = 4 + ((p.ms.getD k default).params.size + (p.ms.getD k default).locals.size : Nat) + (ss.getD k default).most) := rfl
  have HW := Lib.hid (fun W (hu : Upd [] w W) => words_in2 ib p ss n k W (h.info.keep hu (by simp)).now hok.len hk (by omega) (by omega) (by omega) (by omega) h0 (by omega))
  have HNF : Hid (newFr p k xs = ⟨k, 0, xs ++ zeroL (p.ms.getD k default).locals, []⟩) := rfl
  have hfw : 0 ≤ frW p ss k ∧ frW p ss k ≤ 1000 := by unfold frW; omega
  have HOK := Lib.hid hok
  have hlim := hok.lim
  have hwd := hok.wd
  have m2 : w.cell? ⟨sb, 2, none⟩ = some (.slice (some ⟨b, o, none⟩) p.ms.length mc) := by rw [cell_of h.box]; rfl
  have H := Lib.hid h
  have HSE := Lib.hid hS
  have HA := Lib.hid ha
  obtain ⟨ap, ac, rfl⟩ := ha.form
  generalize p.ms.getD k default = m at q0 q1 q2 q3 hal hfit hsz HNF hcw
  clear h hok hS ha HFW
  have d0 : decide ((k : Int) < 0) = false := decide_eq_false (by omega)
  have d1 : decide (p.ms.length ≤ k) = false := decide_eq_false (by omega)
  have hu1 := (Upd.refl [] w).alloc (.cells #[.string m.params, .string m.locals, .string m.ret, .slice ka m.code.length kc] 51)
  have hb1 := heap_alloc_new w (.cells #[.string m.params, .string m.locals, .string m.ret, .slice ka m.code.length kc] 51)
  have HU1 := Lib.hid hu1
  have HB1 := Lib.hid hb1
  clear hu1 hb1
  go_enter Tryz.func9, Tryz.ntmps9
  go_upto_region 4 with fail
  generalize w.alloc (.cells #[.string m.params, .string m.locals, .string m.ret, .slice ka m.code.length kc] 51) = w1 at HU1 HB1 ⊢
  generalize hmb : w.heap.size = mb at HB1 ⊢
  have HMB := Lib.hid hmb
  clear hmb m2 q0 q1 q2 q3 d0 d1
  have s0 : w1.cell? ⟨mb, 0, none⟩ = some (.string m.params) := by rw [cell_of HB1.out]; rfl
  have s1 : w1.cell? ⟨mb, 1, none⟩ = some (.string m.locals) := by rw [cell_of HB1.out]; rfl
  go_wp2_with fail
  have HAL := Lib.hid hal
  have HFIT := Lib.hid hfit
  have hps : m.params.size ≤ 12 := by omega
  clear hal hfit
  go_loopw [8, 9, 43] (fun _ _ iv wr => ∃ i : Nat, i ≤ m.params.size ∧ iv = .int .i64 i ∧ Hid (Upd [] w1 wr)) (fun _ _ iv _ => m.params.size - (intOf iv).toNat)
  case atStart => exact ⟨0, by omega, rfl, Upd.refl _ _⟩
  case round =>
    clear s0 s1
    obtain ⟨i, hi, rfl, HV⟩ := hrel
    obtain ⟨wo, rfl⟩ : ∃ wo : World, wo = wr := ⟨_, rfl⟩
    have s0 : wo.cell? ⟨mb, 0, none⟩ = some (.string m.params) := HV.out.cell (by rw [cell_of HB1.out]; rfl) (by simp)
    have s1 : wo.cell? ⟨mb, 1, none⟩ = some (.string m.locals) := HV.out.cell (by rw [cell_of HB1.out]; rfl) (by simp)
    by_cases hlt : i < m.params.size
    · have hix : i < xs.length := by rw [HAL.out]; exact hlt
      obtain ⟨x0, x1⟩ := HA.out.2 i hix
      have hap : ap = some ⟨ab, 0, none⟩ := by
        rcases HA.out.1 with ⟨_, e⟩ | ⟨c2, e⟩
        · rw [e] at hix; simp at hix
        · injection e
      subst hap
      have HFT := Lib.hid (HFIT.out i hlt)
      generalize xs.getD i default = x at x0 x1 HFT
      have x0 := (HU1.out.trans HV.out).cell x0 (by simp)
      have x1 := (HU1.out.trans HV.out).cell x1 (by simp)
      obtain ⟨r, xn⟩ := x
      simp only at x0 x1
      have hu2 := (Upd.refl [] wo).alloc (.cells #[.bool r, .int .i64 xn] 44)
      have hb2 := heap_alloc_new wo (.cells #[.bool r, .int .i64 xn] 44)
      have HU2 := Lib.hid hu2
      have s0 := hu2.cell s0 (by simp)
      have s1 := hu2.cell s1 (by simp)
      go_upto_region 9 with fail
      generalize wo.alloc (.cells #[.bool r, .int .i64 xn] 44) = w2 at HU2 hb2 s0 s1 ⊢
      generalize wo.heap.size = xb at hb2 ⊢
      have y0 : w2.cell? ⟨xb, 0, none⟩ = some (.bool r) := by rw [cell_of hb2]; rfl
      have y1 : w2.cell? ⟨xb, 1, none⟩ = some (.int .i64 xn) := by rw [cell_of hb2]; rfl
      clear hu2 hb2
      have HF := Lib.hid (fun W => fits_any ⟨r, xn⟩ ((m.params[i]'hlt).toNat : Int) W)
      rw [HFT.out] at HF
      simp only at HF
      have hF0 : w2.cell? ⟨xb, 0, none⟩ = some (.bool r) ∧ w2.cell? ⟨xb, 1, none⟩ = some (.int .i64 xn) ∧ w2.cell? ⟨mb, 0, none⟩ = some (.string m.params) := ⟨y0, y1, s0⟩
      have hF1 : w2.drew.cell? ⟨xb, 0, none⟩ = some (.bool r) ∧ w2.drew.cell? ⟨xb, 1, none⟩ = some (.int .i64 xn) ∧ w2.drew.cell? ⟨mb, 0, none⟩ = some (.string m.params) := hF0
      have hli : (i : Int) < (m.params.size : Int) := by omega
      go_region_held3 (fun W => W.cell? ⟨xb, 0, none⟩ = some (.bool r) ∧ W.cell? ⟨xb, 1, none⟩ = some (.int .i64 xn) ∧ W.cell? ⟨mb, 0, none⟩ = some (.string m.params))
        (first | exact hk0 | exact hF1 | exact hF0)
        ((go_at_call 37; refine (HF.out _).mono ?_; rintro e w3 ⟨rfl, hu3⟩; have hk0 := (⟨hu3.cell hF1.1 (by simp), hu3.cell hF1.2.1 (by simp), hu3.cell hF1.2.2 (by simp)⟩ : _ ∧ _ ∧ _)))
      have HV3 := Lib.hid ((HV.out.trans HU2.out).drew.trans hu3)
      clear hu3 hk0 hF0 hF1 s0 s1 y0 y1 x0 x1
      go_wp2_with fail
      go_roundw
      case rel => exact ⟨i + 1, by omega, by go_num, HV3.out⟩
      case measure => simp [intOf]; omega
    · obtain rfl : i = m.params.size := by omega
      have HU1o := Lib.hid (HU1.out.trans HV.out)
      have m0 : wo.cell? ⟨sb, 0, none⟩ = some (.pointer (some ⟨ib, 0, none⟩)) := by rw [cell_of (HU1o.out.heap H.out.box (by simp))]; rfl
      go_wp2_with fail
      refine (HW.out _ HU1o.out).mono ?_
      rintro e w3 ⟨rfl, has, hu3⟩
      have hwd0 : (4 + ((p.ms.getD k default).params.size + (p.ms.getD k default).locals.size : Nat) + (ss.getD k default).most : Int) = frW p ss k := rfl
      rw [hwd0]
      generalize hWd : frW p ss k = Wd at hfw hwd0
      have HWE := Lib.hid hWd
      clear hWd hwd0 m0
      have hsq := ((H.out.same HU1o.out)).asked hu3 has
      have H3 := Lib.hid hsq
      have HU3 : Hid (Upd [ib] w w3) := (HU1o.out.mono (by simp)).trans hu3
      have hmbi : mb ≠ ib := by
        have h2 := H.out.ib_lt
        have h3 := lt_of_heap H.out.box
        have h4 := HMB.out
        omega
      have HM3 := Lib.hid (hu3.heap (HV.out.heap HB1.out (by simp)) (by simpa using hmbi))
      clear has hu3 hsq HV s0 s1 HW
      have m3 : w3.cell? ⟨sb, 3, none⟩ = some (.int .i64 limit) := by rw [cell_of H3.out.box]; rfl
      have m4 : w3.cell? ⟨sb, 4, none⟩ = some (.int .i64 words) := by rw [cell_of H3.out.box]; rfl
      have hwr : IntKind.i64.wrap (limit - words) = limit - words := IntWalk.i64_in _ (by omega)
      by_cases hr : Wd ≤ limit - words
      · have hdr : decide (limit - words < Wd) = false := decide_eq_false (by omega)
        go_upto_region 13 with fail
        go_quiet (fail)
        go_wp2_with fail
        have hud := (Upd.refl [] w3).drewN nq
        have H4 := Lib.hid (H3.out.same hud)
        have HU4 := Lib.hid (HU3.out.trans (hud.mono (T := [ib]) (by simp)))
        have HM4 := Lib.hid (hud.heap HM3.out (by simp))
        have hia : xs = [] ∨ ab ∉ [ib] := by simpa using ha2
        have HA4 := Lib.hid (HA.out.upd HU4.out hia)
        clear hud H3 HU3 HM3 m3 m4 hia
        generalize w3.drewN nq = w4 at H4 HU4 HM4 HA4 ⊢
        refine (sclone_any _ ab xs w4 HA4.out (by rw [HAL.out]; omega)).mono ?_
        rintro e w5 ⟨u, rfl, hown5, hu5⟩
        obtain ⟨up, uc, rfl⟩ := hown5.shape
        have H5 := Lib.hid (H4.out.same hu5)
        have hb6 := heap_alloc_new w5 (.cells #[.int .i64 k, .int .i64 0, .slice up xs.length uc, .slice none 0 0] 110)
        have hu6 := (Upd.refl [] w5).alloc (.cells #[.int .i64 k, .int .i64 0, .slice up xs.length uc, .slice none 0 0] 110)
        have HB6 := Lib.hid hb6
        have HO6 := Lib.hid (hown5.upd hu6 (by simp))
        have HU46 := Lib.hid (hu5.trans hu6)
        have HM6 := Lib.hid ((hu5.trans hu6).heap HM4.out (by simp))
        have HZ5 := Lib.hid hu5.size
        clear hb6 hu6 hown5 hu5
        go_upto_region 16 with fail
        generalize w5.alloc (.cells #[.int .i64 k, .int .i64 0, .slice up xs.length uc, .slice none 0 0] 110) = w6 at HB6 HO6 HU46 HM6 ⊢
        generalize w5.heap.size = fb at HB6 HZ5 ⊢
        have s1 : w6.cell? ⟨mb, 1, none⟩ = some (.string m.locals) := by rw [cell_of HM6.out]; rfl
        have hls : m.locals.size ≤ 12 := by omega
        go_wp2_with fail
        go_loopw [12, 82] (fun _ jv wr => ∃ (j : Nat) (lp : Option Addr) (lc : Nat), j ≤ m.locals.size ∧ jv = .int .i64 j ∧ Hid (wr.heap[fb]? = some (.cells #[.int .i64 k, .int .i64 0, .slice lp (xs.length + j) lc, .slice none 0 0] 110)) ∧ Hid (OwnSl wr w4.heap.size (.slice lp (xs.length + j) lc) (xs ++ (zeroL m.locals).take j)) ∧ Hid (Upd [] w4 wr)) (fun _ jv _ => m.locals.size - (intOf jv).toNat)
        case atStart => exact ⟨0, up, uc, by omega, rfl, HB6.out, by rw [List.take_zero, List.append_nil]; exact HO6.out, HU46.out⟩
        case round =>
          clear s1 HB6 HO6 HU46 HM6
          obtain ⟨j, lp, lc, hj, rfl, HB, HO, HV⟩ := hrel
          obtain ⟨wo, rfl⟩ : ∃ wo : World, wo = wr := ⟨_, rfl⟩
          have HM := Lib.hid (HV.out.heap HM4.out (by simp))
          have s1 : wo.cell? ⟨mb, 1, none⟩ = some (.string m.locals) := by rw [cell_of HM.out]; rfl
          have z2 : wo.cell? ⟨fb, 2, none⟩ = some (.slice lp (xs.length + j) lc) := by rw [cell_of HB.out]; rfl
          by_cases hlt : j < m.locals.size
          · have HT := Lib.hid (zeroL_take m.locals j hlt)
            obtain ⟨bb, hbb⟩ : ∃ bb, ((((m.locals)[j]'hlt).toNat : Int) == 82) = bb := ⟨_, rfl⟩
            rw [hbb] at HT
            have hdr := (Upd.refl [] wo).drew
            have hal := (Upd.refl [] wo.drew).alloc (.cells #[.bool bb, .int .i64 0] 44)
            have bl := (Upd.refl [] wo).alloc (.cells #[.bool bb, .int .i64 0] 44)
            have ds1 := hdr.cell s1 (by simp)
            have dz2 := hdr.cell z2 (by simp)
            have as1 := hal.cell ds1 (by simp)
            have az2 := hal.cell dz2 (by simp)
            have bs1 := bl.cell s1 (by simp)
            have bz2 := bl.cell z2 (by simp)
            have hlen : (xs ++ (zeroL m.locals).take j).length = xs.length + j := by rw [List.length_append, List.length_take, zeroL_len]; omega
            have HLEN := Lib.hid hlen
            have HROW : Hid ((wo.drew.alloc (.cells #[.bool bb, .int .i64 0] 44)).ownsRow w4.heap.size 44 2 (.slice lp (xs.length + j) lc) (xs.length + j) (slcells (xs ++ (zeroL m.locals).take j))) := by
              have h5 := row_upd HO.out (hdr.trans hal) (by simp)
              rwa [hlen] at h5
            have HBd := Lib.hid ((hdr.trans hal).heap HB.out (by simp))
            have HBd0 := Lib.hid (hdr.heap HB.out (by simp))
            have hfbl : fb < wo.heap.size := lt_of_heap HB.out
            have hw4 : w4.heap.size ≤ fb := HZ5.out
            have hxl : xs.length ≤ 12 := by rw [HAL.out]; omega
            have hjl : (j : Int) < (m.locals.size : Int) := by omega
            clear hdr hal bl hlen HM HB
            go_upto_region 19 with fail
            go_region_law (refine step_append_own_at rfl (.tmp 86) (.tmp 93) 45 rfl w4.heap.size 44 i0 (.agg #[.bool false, .int .i64 0]) 2 16 Tryz.underlying45 HI.out HZ0.out HZ1.out HZ2.out rfl (by decide) (.slice lp (xs.length + j) lc) (xs.length + j) (slcells (xs ++ (zeroL m.locals).take j)) rfl HROW.out ⟨wo.heap.size, 0, none⟩ 1 1 [.bool bb, .int .i64 0] rfl rfl (slot_new wo.drew ⟨bb, 0⟩) (by simp [Value.oneCell']) (by unfold maxLen; omega) (by omega) (by simp; omega) ?_; intro v' wN hown' hgrow hat; obtain ⟨gn, cn, rfl⟩ := ownsRow_succ hown'; have HGU := Lib.hid ((Upd.refl _ (wo.drew.alloc (.cells #[.bool bb, .int .i64 0] 44))).grown hgrow (fun q hq => Or.inl (Option.mem_toList.2 hq))); have HBN := Lib.hid (HGU.out.heap HBd.out (fun hm => own_heap_ne HROW.out HBd.out (by decide) (Option.mem_toList.1 hm))); have z2N := cell_of HBN.out 2; have fzN := froz_of HBN.out 2; simp at z2N; have HOWN := Lib.hid hown'; have HAT := Lib.hid hat; clear hown' hgrow hat)
            all_goals
              go_wp2_with fail
              have hb7 := heap_setCell HBN.out 2 (.slice (some ⟨gn, 0, none⟩) (xs.length + j + 1) cn)
              have hst : Upd [fb] wN (wN.setCell ⟨fb, 2, none⟩ (.slice (some ⟨gn, 0, none⟩) (xs.length + j + 1) cn)) := (Upd.refl [fb] wN).setCell (.inl (by simp)) _
              have hne := own_heap_ne HOWN.out HBN.out (by decide)
              have ho7 := row_upd HOWN.out hst (fun q hq hm => hne (by rw [List.mem_singleton] at hm; rw [← hm]; exact hq))
              have hv7 : Upd [] w4 (wN.setCell ⟨fb, 2, none⟩ (.slice (some ⟨gn, 0, none⟩) (xs.length + j + 1) cn)) := by
                refine (HV.out.trans' ((((Upd.refl [] wo).drew.alloc _).mono (by simp)).trans HGU.out) (fun q hq hl => ?_)).trans' hst (fun q hq hl => ?_)
                · have := (World.ownsRow.lt HROW.out q (Option.mem_toList.1 hq)).1
                  omega
                · rw [List.mem_singleton] at hq
                  omega
              refine ⟨⟨j + 1, some ⟨gn, 0, none⟩, cn, by omega, by go_num, ?_, ?_, hv7⟩, by simp [intOf]; omega⟩
              · show (World.heap _)[fb]? = _
                rw [hb7]
                rfl
              · show OwnSl _ _ _ _
                unfold OwnSl
                rw [HT.out, ← List.append_assoc, slcells_app, List.length_append, HLEN.out]
                exact ho7
          · obtain rfl : j = m.locals.size := by omega
            have hzt : (zeroL m.locals).take m.locals.size = zeroL m.locals := List.take_of_length_le (by rw [zeroL_len]; exact Nat.le_refl _)
            rw [hzt] at HO
            clear hzt s1 z2 HM
            have H7 := Lib.hid (H4.out.same HV.out)
            have hfew := HOK.out.few
            have hlsz : (xs ++ zeroL m.locals).length = xs.length + m.locals.size := by rw [List.length_append, zeroL_len]
            have HSZ := Lib.hid hlsz
            clear hlsz
            generalize xs.length + m.locals.size = ll at HB HO HSZ
            have t5 : wo.cell? ⟨sb, 5, none⟩ = some (.slice p5 fs.length c5) := by rw [cell_of H7.out.box]; rfl
            have b0 : wo.cell? ⟨fb, 0, none⟩ = some (.int .i64 k) := by rw [cell_of HB.out]; rfl
            have b1 : wo.cell? ⟨fb, 1, none⟩ = some (.int .i64 0) := by rw [cell_of HB.out]; rfl
            have b2 : wo.cell? ⟨fb, 2, none⟩ = some (.slice lp ll lc) := by rw [cell_of HB.out]; rfl
            have b3 : wo.cell? ⟨fb, 3, none⟩ = some (.slice none 0 0) := by rw [cell_of HB.out]; rfl
            have hdr := (Upd.refl [] wo).drew
            have hal := (Upd.refl [] wo.drew).alloc (.cells #[.int .i64 k, .int .i64 0, .slice lp ll lc, .slice none 0 0] 110)
            have bl := (Upd.refl [] wo).alloc (.cells #[.int .i64 k, .int .i64 0, .slice lp ll lc, .slice none 0 0] 110)
            have dt5 := hdr.cell t5 (by simp)
            have db0 := hdr.cell b0 (by simp)
            have db1 := hdr.cell b1 (by simp)
            have db2 := hdr.cell b2 (by simp)
            have db3 := hdr.cell b3 (by simp)
            have at5 := hal.cell dt5 (by simp)
            have ab0 := hal.cell db0 (by simp)
            have ab1 := hal.cell db1 (by simp)
            have ab2 := hal.cell db2 (by simp)
            have ab3 := hal.cell db3 (by simp)
            have lt5 := bl.cell t5 (by simp)
            have lb0 := bl.cell b0 (by simp)
            have lb1 := bl.cell b1 (by simp)
            have lb2 := bl.cell b2 (by simp)
            have lb3 := bl.cell b3 (by simp)
            have HROW : Hid ((wo.drew.alloc (.cells #[.int .i64 k, .int .i64 0, .slice lp ll lc, .slice none 0 0] 110)).ownsRow (sb + 1) 110 4 (.slice p5 fs.length c5) fs.length (frcells fs vs)) := row_upd H7.out.frs.row (hdr.trans hal) (by simp)
            have HD7 := Lib.hid (H7.out.same hdr)
            have HOd := Lib.hid (HO.out.upd hdr (by simp))
            have HW4 : Hid (sb < w4.heap.size) := lt_of_heap H4.out.box
            have hsbl : sb < wo.heap.size := lt_of_heap H7.out.box
            clear hdr hal bl HB HO HM4 HA4
            go_upto_region 21 with fail
            go_region_law (refine step_append_own_at rfl (.tmp 101) (.tmp 103) 103 rfl (sb + 1) 110 i1 (.agg #[.int .i64 0, .int .i64 0, .slice none 0 0, .slice none 0 0]) 4 64 Tryz.underlying103 HJ.out HJ0.out HJ1.out HJ2.out rfl (by decide) (.slice p5 fs.length c5) fs.length (frcells fs vs) rfl HROW.out ⟨wo.heap.size, 0, none⟩ 1 1 [.int .i64 k, .int .i64 0, .slice lp ll lc, .slice none 0 0] rfl rfl (fr_new wo.drew k (.slice lp ll lc)) (by simp [Value.oneCell']) (by unfold maxLen; omega) (by omega) (by simp; omega) ?_; intro v' wN hown' hgrow hat; obtain ⟨gn, cn, rfl⟩ := ownsRow_succ hown'; have HFP := Lib.hid (HD7.out.frs.push ⟨k, 0, xs ++ zeroL m.locals, []⟩ ⟨.slice lp ll lc, .slice none 0 0⟩ (HOd.out.low (by have := HW4.out; omega)) rfl rfl (push_apart H4.out.frs HOd.out) (push_ne HD7.out.frs HOd.out) hown' hgrow); have HBN := Lib.hid (HFP.out.2.heap HD7.out.box (fun hm => by have := (World.ownsRow.lt HROW.out _ (Option.mem_toList.1 hm)).1; omega)); have fzN := froz_of HBN.out 5; have fzM := froz_of HBN.out 4; have m4N := cell_of HBN.out 4; have m5N := cell_of HBN.out 5; simp [stkCells] at m4N m5N; have HATN := Lib.hid hat; clear hown' hgrow hat)
            all_goals
              go_wp2_with fail
              go_ret
              have hat := HD7.out.at_
              have hT : ∀ q ∈ (Value.slice p5 fs.length c5).ownBlock.toList, sb < q := fun q hq => by
                have := (World.ownsRow.lt HROW.out q (Option.mem_toList.1 hq)).1
                omega
              have hst5 : Upd [sb] wN (wN.setCell ⟨sb, 5, none⟩ (.slice (some ⟨gn, 0, none⟩) (fs.length + 1) cn)) := (Upd.refl [sb] wN).setCell (.inl (by simp)) _
              have h8 : StkAt W0 (wN.setCell ⟨sb, 5, none⟩ (.slice (some ⟨gn, 0, none⟩) (fs.length + 1) cn)) sb ib p ss n0 (n + 1) cv (.slice (some ⟨b, o, none⟩) p.ms.length mc) limit words (.slice (some ⟨gn, 0, none⟩) (fs.length + 1) cn) (fs ++ [⟨k, 0, xs ++ zeroL m.locals, []⟩]) (vs ++ [⟨.slice lp ll lc, .slice none 0 0⟩]) :=
                ⟨heap_setCell HBN.out 5 _, HFP.out.1.off hst5 (by simp), (HD7.out.info.keep HFP.out.2 (fun q hq => by have := hT q hq; omega)).keep hst5 (fun q hq => by rw [List.mem_singleton] at hq; omega), HD7.out.meths, hat⟩
              obtain ⟨h9, hu9⟩ := h8.setw (words + Wd)
              have hr2 : frW p ss k ≤ limit - words := by rw [HWE.out]; exact hr
              have hu : Upd (ib :: (Value.slice p5 fs.length c5).ownBlock.toList ++ [sb]) w ((wN.setCell ⟨sb, 5, none⟩ (.slice (some ⟨gn, 0, none⟩) (fs.length + 1) cn)).setCell ⟨sb, 4, none⟩ (.int .i64 (words + Wd))) :=
                ((((HU4.out.mono (fun q hq _ => by rw [List.mem_singleton] at hq; simp [hq])).trans (HV.out.mono (by simp))).trans ((Upd.refl _ wo).drew)).trans (HFP.out.2.mono (fun q hq _ => by simp only [List.cons_append, List.mem_cons, List.mem_append]; exact .inr (.inl hq)))).trans ((hst5.trans hu9).mono (fun q hq _ => by rw [List.mem_singleton] at hq; simp [hq]))
              have hsz4 : w.heap.size ≤ w4.heap.size := HU4.out.size
              have hszo : w4.heap.size ≤ wo.heap.size := HV.out.size
              have hnewl := HATN.out
              refine ⟨.inl ⟨hr2, rfl, ⟨_, ⟨.slice lp ll lc, .slice none 0 0⟩, ⟨hnewl.imp id (fun h => ⟨_, h, by simp; omega⟩), fun q hq => ?_⟩, by rw [HWE.out, HNF.out]; exact h9⟩, HOK.out.push (newFr p k xs) hk hr2⟩, _, fun q hq => ?_, hu⟩
              · rcases hq with hq | hq
                · have := (World.ownsRow.lt HOd.out q hq).1
                  omega
                · cases hq
              simp only [List.cons_append, List.mem_cons, List.mem_append, List.not_mem_nil, or_false] at hq
              rcases hq with hq | hq | hq
              · exact .inl hq
              · exact .inr (.inr ⟨Option.mem_toList.1 hq, hT q hq⟩)
              · exact .inr (.inl hq)
      · have hdr : decide (limit - words < Wd) = true := decide_eq_true (by omega)
        have e13 : w3.cell? ⟨3, 0, none⟩ = some (sErr E 13) := by
          have h1 : w.cell? ⟨3, 0, none⟩ = some (sErr E 13) := HSE.out.room
          refine HU3.out.cell h1 (fun hm => ?_)
          rw [List.mem_singleton] at hm
          have hm : (3 : Nat) = ib := hm
          obtain ⟨_, _, _, hbi, ⟨_, _, rfl, _⟩, _⟩ := H.out.info.now
          rw [hm, cell_of hbi] at h1
          simp [sErr] at h1
        unfold sErr at e13
        go_upto_region 13 with fail
        go_quiet (fail)
        have e13 := (Upd.refl [] w3).drewN nq |>.cell e13 (by simp)
        go_wp2_with fail
        go_ret
        refine ⟨.inr ⟨by rw [HWE.out]; omega, rfl, H3.out.same ((Upd.refl [] w3).drewN nq)⟩, [ib], by simp, HU3.out.trans ((Upd.refl [ib] w3).drewN nq)⟩
theorem spush_any (E : Nat → Addr) (W0 w : World) (sb ib : Nat) (p : Prg) (ss : List Lk) (n0 n : Int) (cv mv : Value) (limit words : Int) (lv : Value) (fs : List Fr) (vs : List FrV) (k : Nat) (av : Value) (ab : Nat) (xs : List Slt)
    (h : StkAt W0 w sb ib p ss n0 n cv mv limit words lv fs vs) (hok : StkOk p ss limit words fs) (hS : SentP w E) (hk : k < p.ms.length) (ha : SltV w av ab xs) (ha2 : xs = [] ∨ ab ≠ ib)
    (hal : xs.length = (p.ms.getD k default).params.size) (hfit : ∀ i (hi : i < (p.ms.getD k default).params.size), fitsB (xs.getD i default) ((((p.ms.getD k default).params[i]'hi).toNat : Int)) = true) (h0 : 0 ≤ n) (h1 : n ≤ 900000000) :
    Calls Tryz.prog 9 #[.pointer (some ⟨sb, 0, none⟩), .int .i64 k, av] w (PushEnd E W0 w sb ib p ss n0 n cv mv limit words lv fs vs k xs) :=
  (spush_own E W0 w sb ib p ss n0 n cv mv limit words lv fs vs k av ab xs h hok hS hk ha ha2 hal hfit h0 h1).mono fun _ _ ⟨h1, T, h2, h3⟩ => ⟨h1.imp (fun ⟨a, b, ⟨lv', v', _, c⟩, d⟩ => ⟨a, b, ⟨lv', v', c⟩, d⟩) id, T, fun t ht => (h2 t ht).imp id (fun h => by rcases h with h | ⟨_, h⟩ <;> omega), h3⟩
end Go.Proofs.YtopojeanbpokaaaGreatDoor

/-! A stack of frames: each. -/
/-! A stack of frames: each. -/
namespace Go.Proofs.YtopojeanbpokaaaGreatDoor
open Go.RowKit

/-- How many references. -/
def refN (xs : List Slt) : Nat := (xs.filter (·.ref)).length
theorem refN_take (xs : List Slt) (k : Nat) (h : k < xs.length) : refN (xs.take (k + 1)) = refN (xs.take k) + if (xs.getD k default).ref = true then 1 else 0 := by
  unfold refN
  rw [List.take_succ_eq_append_getElem h, List.filter_append, List.length_append, List.getD_eq_getElem?_getD, List.getElem?_eq_getElem h, Option.getD_some]
  congr 1
  by_cases e : (xs[k]).ref = true
  · simp [e]
  · simp [e]
def cntR (fs : List Fr) (i : Nat) : Nat := ((fs.take i).map fun f => refN f.loc + refN f.stk).sum
theorem cntR_succ (fs : List Fr) (i : Nat) (h : i < fs.length) : cntR fs (i + 1) = cntR fs i + (refN (fs.getD i default).loc + refN (fs.getD i default).stk) := by
  unfold cntR
  rw [List.take_succ_eq_append_getElem h, List.map_append, List.sum_append, List.getD_eq_getElem?_getD, List.getElem?_eq_getElem h, Option.getD_some]
  simp
/-- A row of a frame: its locals (0), its stack. -/
def rowF (f : Fr) (r : Nat) : List Slt := if r = 0 then f.loc else f.stk
def rowV (v : FrV) (r : Nat) : Value := if r = 0 then v.lv else v.sv
/-- How many references lie ahead of a row. -/
def baseF (fs : List Fr) (i r : Nat) : Nat := cntR fs i + if r = 0 then 0 else if r = 1 then refN (fs.getD i default).loc else refN (fs.getD i default).loc + refN (fs.getD i default).stk
theorem baseF_step (fs : List Fr) (i r : Nat) (h : r < 2) : baseF fs i (r + 1) = baseF fs i r + refN (rowF (fs.getD i default) r) := by
  have : r = 0 ∨ r = 1 := by omega
  rcases this with rfl | rfl
  · simp [baseF, rowF]
  · simp [baseF, rowF]; omega
theorem baseF_two (fs : List Fr) (i : Nat) (h : i < fs.length) : baseF fs i 2 = cntR fs (i + 1) := by rw [cntR_succ _ _ h]; simp [baseF]
/-- What each reads: the frames, and which of their slots are references. -/
structure EachV (W : World) (sb : Nat) (lv : Value) (fs : List Fr) (vs : List FrV) : Prop where
  hd : W.cell? ⟨sb, 5, none⟩ = some lv
  row : ∀ i, i < fs.length → ∃ g c, lv = .slice (some ⟨g, 0, none⟩) fs.length c ∧ W.cell? ⟨g, i * 4 + 2, none⟩ = some (vs.getD i default).lv ∧ W.cell? ⟨g, i * 4 + 3, none⟩ = some (vs.getD i default).sv
  form : ∀ i, i < fs.length → ∀ r, r < 2 → ∃ p c, rowV (vs.getD i default) r = .slice p (rowF (fs.getD i default) r).length c ∧ (0 < (rowF (fs.getD i default) r).length → ∃ b, p = some ⟨b, 0, none⟩ ∧ ∀ k, k < (rowF (fs.getD i default) r).length → W.cell? ⟨b, k * 2, none⟩ = some (.bool ((rowF (fs.getD i default) r).getD k default).ref))
/-- Rows of rows stay. -/
def KeepR (W W' : World) : Prop := ∀ (q : Nat) (o : Array Value), W.heap[q]? = some (Obj.cells o 45) → W'.heap[q]? = some (Obj.cells o 45)

set_option maxRecDepth 100000 in
set_option maxHeartbeats 4000000 in
theorem eachR_any (lb : Nat) (sb : Nat) (lv : Value) (fs : List Fr) (vs : List FrV) (I : Nat → World → Prop) (w : World) (hn : fs.length ≤ 100000) (hlp : ∃ p c, lv = .slice p fs.length c) (hsz : ∀ i, i < fs.length → ∀ r, r < 2 → (rowF (fs.getD i default) r).length ≤ 100000)
    (hview : ∀ j W, I j W → EachV W sb lv fs vs) (hkeep : ∀ j W W', I j W → Upd [] W W' → I j W')
    (hcall : ∀ i, i < fs.length → ∀ r, r < 2 → ∀ k, k < (rowF (fs.getD i default) r).length → ((rowF (fs.getD i default) r).getD k default).ref = true → ∀ b n c, rowV (vs.getD i default) r = .slice (some ⟨b, 0, none⟩) n c → ∀ W, I (baseF fs i r + refN ((rowF (fs.getD i default) r).take k)) W →
      Calls Tryz.prog 47 #[.pointer (some ⟨b, k * 2, none⟩), .pointer (some ⟨lb, 0, none⟩)] W fun e W' => e = .returned (.tuple #[]) ∧ I (baseF fs i r + refN ((rowF (fs.getD i default) r).take k) + 1) W' ∧ KeepR W W')
    (h0 : I 0 w) :
    Calls Tryz.prog 42 #[.pointer (some ⟨sb, 0, none⟩), .func (.func 47) #[] #[.pointer (some ⟨lb, 0, none⟩)]] w fun e w' => e = .returned (.tuple #[]) ∧ I (cntR fs fs.length) w' := by
  have HV := Lib.hid hview
  have HK := Lib.hid hkeep
  have HC := Lib.hid hcall
  have HSZ := Lib.hid hsz
  have H0 := Lib.hid h0
  obtain ⟨p5, c5, rfl⟩ := hlp
  clear hview hkeep hcall hsz h0
  have m5 := (HV.out 0 w H0.out).hd
  go_enter Tryz.func42, Tryz.ntmps42
  go_wp2_with fail
  go_loopw [13] (fun iv wr => ∃ i : Nat, i ≤ fs.length ∧ iv = .int .i64 i ∧ Hid (I (cntR fs i) wr)) (fun iv _ => fs.length - (intOf iv).toNat)
  case atStart => exact ⟨0, by omega, rfl, H0.out⟩
  case round =>
    clear H0 m5
    obtain ⟨i, hi, rfl, HI⟩ := hrel
    obtain ⟨wo, rfl⟩ : ∃ wo : World, wo = wr := ⟨_, rfl⟩
    by_cases hlt : i < fs.length
    · have hv := HV.out _ _ HI.out
      have m5 := hv.hd
      obtain ⟨g, c, hlv, g2, g3⟩ := hv.row i hlt
      injection hlv with e1 _ e3
      subst e1 e3
      obtain ⟨pa, ca, ha, _⟩ := hv.form i hlt 0 (by omega)
      obtain ⟨pb, cb, hb, _⟩ := hv.form i hlt 1 (by omega)
      have ha2 : (vs.getD i default).lv = .slice pa (rowF (fs.getD i default) 0).length ca := ha
      have hb2 : (vs.getD i default).sv = .slice pb (rowF (fs.getD i default) 1).length cb := hb
      rw [ha2] at g2
      rw [hb2] at g3
      clear hv ha2 hb2
      have hza := HSZ.out i hlt 0 (by omega)
      have hzb := HSZ.out i hlt 1 (by omega)
      have HAB : Hid (∀ r, r < 2 → (#[Value.slice pa (rowF (fs.getD i default) 0).length ca, Value.slice pb (rowF (fs.getD i default) 1).length cb])[r]? = some (rowV (vs.getD i default) r)) := fun r hr => by
        have : r = 0 ∨ r = 1 := by omega
        rcases this with rfl | rfl
        · rw [ha]; rfl
        · rw [hb]; rfl
      clear ha hb
      generalize (rowF (fs.getD i default) 0).length = na at g2 HAB hza
      generalize (rowF (fs.getD i default) 1).length = nb at g3 HAB hzb
      go_upto_region 3 with fail
      go_region
      go_wp2_with fail
      have hud := ((Upd.refl [] wo).alloc (.cells #[.slice pa na ca, .slice pb nb cb] 45)).drew
      have hbb : ((wo.alloc (.cells #[.slice pa na ca, .slice pb nb cb] 45)).drew).heap[wo.heap.size]? = some (Obj.cells #[.slice pa na ca, .slice pb nb cb] 45) := (Upd.refl [] _).drew.heap (heap_alloc_new wo _) (by simp)
      have HI2 := Lib.hid (HK.out _ _ _ HI.out hud)
      have HBB := Lib.hid hbb
      clear hud hbb m5 g2 g3 HI
      generalize (wo.alloc (.cells #[.slice pa na ca, .slice pb nb cb] 45)).drew = w2 at HI2 HBB ⊢
      generalize wo.heap.size = B at HBB ⊢
      go_loopw [34] (fun rv wr => ∃ r : Nat, r ≤ 2 ∧ rv = .int .i64 r ∧ Hid (I (baseF fs i r) wr) ∧ Hid (wr.heap[B]? = some (Obj.cells #[.slice pa na ca, .slice pb nb cb] 45))) (fun rv _ => 2 - (intOf rv).toNat)
      case atStart => exact ⟨0, by omega, rfl, HI2.out, HBB.out⟩
      case round =>
        clear HI2 HBB
        obtain ⟨r, hr, rfl, HI, HBB⟩ := hrel
        obtain ⟨w3, rfl⟩ : ∃ w3 : World, w3 = wr := ⟨_, rfl⟩
        by_cases hr2 : r < 2
        · obtain ⟨p, c, hrv, hcells⟩ := (HV.out _ _ HI.out).form i hlt r hr2
          have hcell : w3.cell? ⟨B, r, none⟩ = some (.slice p (rowF (fs.getD i default) r).length c) := by
            rw [cell_of HBB.out, ← hrv]
            exact HAB.out r hr2
          have HRV := Lib.hid hrv
          have hnl := HSZ.out i hlt r hr2
          clear hcells hrv
          obtain ⟨n, hnn⟩ : ∃ n, (rowF (fs.getD i default) r).length = n := ⟨_, rfl⟩
          rw [hnn] at hcell hnl
          have HN := Lib.hid hnn
          clear hnn
          have hri : (r : Int) < 2 := by omega
          go_wp2_with fail
          go_loopw [40] (fun kv wr => ∃ k : Nat, k ≤ n ∧ kv = .int .i64 k ∧ Hid (I (baseF fs i r + refN ((rowF (fs.getD i default) r).take k)) wr) ∧ Hid (wr.heap[B]? = some (Obj.cells #[.slice pa na ca, .slice pb nb cb] 45))) (fun kv _ => n - (intOf kv).toNat)
          case atStart => exact ⟨0, by omega, rfl, HI.out, HBB.out⟩
          case round =>
            clear HI HBB hcell
            obtain ⟨k, hk, rfl, HI, HBB⟩ := hrel
            obtain ⟨w4, rfl⟩ : ∃ w4 : World, w4 = wr := ⟨_, rfl⟩
            by_cases hkl : k < n
            · obtain ⟨p2, c2, hrv, hcells⟩ := (HV.out _ _ HI.out).form i hlt r hr2
              obtain ⟨b, rfl, hcs⟩ := hcells (by rw [HN.out]; omega)
              rw [HRV.out] at hrv
              injection hrv with e1 e2 e3
              subst e1 e3
              clear e2
              have hkr : k < (rowF (fs.getD i default) r).length := by rw [HN.out]; exact hkl
              have hc := hcs k hkr
              have HT := Lib.hid (refN_take _ k hkr)
              have HCL := Lib.hid (hkr)
              clear hcs hcells
              cases hbv : ((rowF (fs.getD i default) r).getD k default).ref with
              | true =>
                have HCA := Lib.hid (HC.out i hlt r hr2 k hkr hbv b _ _ HRV.out w4 HI.out)
                have HT2 : Hid (refN ((rowF (fs.getD i default) r).take (k + 1)) = refN ((rowF (fs.getD i default) r).take k) + 1) := by
                  have := HT.out
                  rwa [if_pos hbv] at this
                rw [hbv] at hc
                clear hbv HT hkr
                go_wp2_with fail
                refine HCA.out.mono ?_
                rintro e w5 ⟨rfl, hi5, hk5⟩
                have HI5 := Lib.hid hi5
                have HB5 := Lib.hid (hk5 _ _ HBB.out)
                clear hi5 hk5 HCA HI HBB hc
                go_wp2_with fail
                go_roundw
                case rel => exact ⟨k + 1, by omega, by go_num, by rw [HT2.out, ← Nat.add_assoc]; exact HI5.out, HB5.out⟩
                case measure => simp [intOf]; omega
              | false =>
                have HT2 : Hid (refN ((rowF (fs.getD i default) r).take (k + 1)) = refN ((rowF (fs.getD i default) r).take k)) := by
                  have := HT.out
                  rw [if_neg (by rw [hbv]; decide)] at this
                  exact this
                rw [hbv] at hc
                clear hbv HT hkr
                go_wp2_with fail
                go_roundw
                case rel => exact ⟨k + 1, by omega, by go_num, by rw [HT2.out]; exact HI.out, HBB.out⟩
                case measure => simp [intOf]; omega
            · obtain rfl : k = n := by omega
              have hi2 : I (baseF fs i (r + 1)) w4 := by
                have h1 := HI.out
                rw [List.take_of_length_le (by rw [HN.out]; exact Nat.le_refl _)] at h1
                rw [baseF_step fs i r hr2]
                exact h1
              have HI2 := Lib.hid hi2
              clear hi2 HI
              go_wp2_with fail
              go_roundw
              case rel => exact ⟨r + 1, by omega, by go_num, HI2.out, HBB.out⟩
              case measure => simp [intOf]; omega
        · obtain rfl : r = 2 := by omega
          have hi2 : I (cntR fs (i + 1)) w3 := by
            have h1 := HI.out
            rwa [baseF_two fs i hlt] at h1
          have HI2 := Lib.hid hi2
          clear hi2 HI
          go_wp2_with fail
          go_roundw
          case rel => exact ⟨i + 1, by omega, by go_num, HI2.out⟩
          case measure => simp [intOf]; omega
    · obtain rfl : i = fs.length := by omega
      go_wp2_with fail
      go_end0
      exact ⟨rfl, HI.out⟩
set_option maxRecDepth 100000 in
set_option maxHeartbeats 4000000 in
theorem eachN_any (lb : Nat) (sb : Nat) (lv : Value) (fs : List Fr) (vs : List FrV) (I : Nat → World → Prop) (w : World) (hn : fs.length ≤ 100000) (hlp : ∃ p c, lv = .slice p fs.length c) (hsz : ∀ i, i < fs.length → ∀ r, r < 2 → (rowF (fs.getD i default) r).length ≤ 100000)
    (hview : ∀ j W, I j W → EachV W sb lv fs vs) (hkeep : ∀ j W W', I j W → Upd [] W W' → I j W')
    (hcall : ∀ i, i < fs.length → ∀ r, r < 2 → ∀ k, k < (rowF (fs.getD i default) r).length → ((rowF (fs.getD i default) r).getD k default).ref = true → ∀ b n c, rowV (vs.getD i default) r = .slice (some ⟨b, 0, none⟩) n c → ∀ W, I (baseF fs i r + refN ((rowF (fs.getD i default) r).take k)) W →
      Calls Tryz.prog 43 #[.pointer (some ⟨b, k * 2, none⟩), .pointer (some ⟨lb, 0, none⟩)] W fun e W' => e = .returned (.tuple #[]) ∧ I (baseF fs i r + refN ((rowF (fs.getD i default) r).take k) + 1) W' ∧ KeepR W W')
    (h0 : I 0 w) :
    Calls Tryz.prog 42 #[.pointer (some ⟨sb, 0, none⟩), .func (.func 43) #[] #[.pointer (some ⟨lb, 0, none⟩)]] w fun e w' => e = .returned (.tuple #[]) ∧ I (cntR fs fs.length) w' := by
  have HV := Lib.hid hview
  have HK := Lib.hid hkeep
  have HC := Lib.hid hcall
  have HSZ := Lib.hid hsz
  have H0 := Lib.hid h0
  obtain ⟨p5, c5, rfl⟩ := hlp
  clear hview hkeep hcall hsz h0
  have m5 := (HV.out 0 w H0.out).hd
  go_enter Tryz.func42, Tryz.ntmps42
  go_wp2_with fail
  go_loopw [13] (fun iv wr => ∃ i : Nat, i ≤ fs.length ∧ iv = .int .i64 i ∧ Hid (I (cntR fs i) wr)) (fun iv _ => fs.length - (intOf iv).toNat)
  case atStart => exact ⟨0, by omega, rfl, H0.out⟩
  case round =>
    clear H0 m5
    obtain ⟨i, hi, rfl, HI⟩ := hrel
    obtain ⟨wo, rfl⟩ : ∃ wo : World, wo = wr := ⟨_, rfl⟩
    by_cases hlt : i < fs.length
    · have hv := HV.out _ _ HI.out
      have m5 := hv.hd
      obtain ⟨g, c, hlv, g2, g3⟩ := hv.row i hlt
      injection hlv with e1 _ e3
      subst e1 e3
      obtain ⟨pa, ca, ha, _⟩ := hv.form i hlt 0 (by omega)
      obtain ⟨pb, cb, hb, _⟩ := hv.form i hlt 1 (by omega)
      have ha2 : (vs.getD i default).lv = .slice pa (rowF (fs.getD i default) 0).length ca := ha
      have hb2 : (vs.getD i default).sv = .slice pb (rowF (fs.getD i default) 1).length cb := hb
      rw [ha2] at g2
      rw [hb2] at g3
      clear hv ha2 hb2
      have hza := HSZ.out i hlt 0 (by omega)
      have hzb := HSZ.out i hlt 1 (by omega)
      have HAB : Hid (∀ r, r < 2 → (#[Value.slice pa (rowF (fs.getD i default) 0).length ca, Value.slice pb (rowF (fs.getD i default) 1).length cb])[r]? = some (rowV (vs.getD i default) r)) := fun r hr => by
        have : r = 0 ∨ r = 1 := by omega
        rcases this with rfl | rfl
        · rw [ha]; rfl
        · rw [hb]; rfl
      clear ha hb
      generalize (rowF (fs.getD i default) 0).length = na at g2 HAB hza
      generalize (rowF (fs.getD i default) 1).length = nb at g3 HAB hzb
      go_upto_region 3 with fail
      go_region
      go_wp2_with fail
      have hud := ((Upd.refl [] wo).alloc (.cells #[.slice pa na ca, .slice pb nb cb] 45)).drew
      have hbb : ((wo.alloc (.cells #[.slice pa na ca, .slice pb nb cb] 45)).drew).heap[wo.heap.size]? = some (Obj.cells #[.slice pa na ca, .slice pb nb cb] 45) := (Upd.refl [] _).drew.heap (heap_alloc_new wo _) (by simp)
      have HI2 := Lib.hid (HK.out _ _ _ HI.out hud)
      have HBB := Lib.hid hbb
      clear hud hbb m5 g2 g3 HI
      generalize (wo.alloc (.cells #[.slice pa na ca, .slice pb nb cb] 45)).drew = w2 at HI2 HBB ⊢
      generalize wo.heap.size = B at HBB ⊢
      go_loopw [34] (fun rv wr => ∃ r : Nat, r ≤ 2 ∧ rv = .int .i64 r ∧ Hid (I (baseF fs i r) wr) ∧ Hid (wr.heap[B]? = some (Obj.cells #[.slice pa na ca, .slice pb nb cb] 45))) (fun rv _ => 2 - (intOf rv).toNat)
      case atStart => exact ⟨0, by omega, rfl, HI2.out, HBB.out⟩
      case round =>
        clear HI2 HBB
        obtain ⟨r, hr, rfl, HI, HBB⟩ := hrel
        obtain ⟨w3, rfl⟩ : ∃ w3 : World, w3 = wr := ⟨_, rfl⟩
        by_cases hr2 : r < 2
        · obtain ⟨p, c, hrv, hcells⟩ := (HV.out _ _ HI.out).form i hlt r hr2
          have hcell : w3.cell? ⟨B, r, none⟩ = some (.slice p (rowF (fs.getD i default) r).length c) := by
            rw [cell_of HBB.out, ← hrv]
            exact HAB.out r hr2
          have HRV := Lib.hid hrv
          have hnl := HSZ.out i hlt r hr2
          clear hcells hrv
          obtain ⟨n, hnn⟩ : ∃ n, (rowF (fs.getD i default) r).length = n := ⟨_, rfl⟩
          rw [hnn] at hcell hnl
          have HN := Lib.hid hnn
          clear hnn
          have hri : (r : Int) < 2 := by omega
          go_wp2_with fail
          go_loopw [40] (fun kv wr => ∃ k : Nat, k ≤ n ∧ kv = .int .i64 k ∧ Hid (I (baseF fs i r + refN ((rowF (fs.getD i default) r).take k)) wr) ∧ Hid (wr.heap[B]? = some (Obj.cells #[.slice pa na ca, .slice pb nb cb] 45))) (fun kv _ => n - (intOf kv).toNat)
          case atStart => exact ⟨0, by omega, rfl, HI.out, HBB.out⟩
          case round =>
            clear HI HBB hcell
            obtain ⟨k, hk, rfl, HI, HBB⟩ := hrel
            obtain ⟨w4, rfl⟩ : ∃ w4 : World, w4 = wr := ⟨_, rfl⟩
            by_cases hkl : k < n
            · obtain ⟨p2, c2, hrv, hcells⟩ := (HV.out _ _ HI.out).form i hlt r hr2
              obtain ⟨b, rfl, hcs⟩ := hcells (by rw [HN.out]; omega)
              rw [HRV.out] at hrv
              injection hrv with e1 e2 e3
              subst e1 e3
              clear e2
              have hkr : k < (rowF (fs.getD i default) r).length := by rw [HN.out]; exact hkl
              have hc := hcs k hkr
              have HT := Lib.hid (refN_take _ k hkr)
              have HCL := Lib.hid (hkr)
              clear hcs hcells
              cases hbv : ((rowF (fs.getD i default) r).getD k default).ref with
              | true =>
                have HCA := Lib.hid (HC.out i hlt r hr2 k hkr hbv b _ _ HRV.out w4 HI.out)
                have HT2 : Hid (refN ((rowF (fs.getD i default) r).take (k + 1)) = refN ((rowF (fs.getD i default) r).take k) + 1) := by
                  have := HT.out
                  rwa [if_pos hbv] at this
                rw [hbv] at hc
                clear hbv HT hkr
                go_wp2_with fail
                refine HCA.out.mono ?_
                rintro e w5 ⟨rfl, hi5, hk5⟩
                have HI5 := Lib.hid hi5
                have HB5 := Lib.hid (hk5 _ _ HBB.out)
                clear hi5 hk5 HCA HI HBB hc
                go_wp2_with fail
                go_roundw
                case rel => exact ⟨k + 1, by omega, by go_num, by rw [HT2.out, ← Nat.add_assoc]; exact HI5.out, HB5.out⟩
                case measure => simp [intOf]; omega
              | false =>
                have HT2 : Hid (refN ((rowF (fs.getD i default) r).take (k + 1)) = refN ((rowF (fs.getD i default) r).take k)) := by
                  have := HT.out
                  rw [if_neg (by rw [hbv]; decide)] at this
                  exact this
                rw [hbv] at hc
                clear hbv HT hkr
                go_wp2_with fail
                go_roundw
                case rel => exact ⟨k + 1, by omega, by go_num, by rw [HT2.out]; exact HI.out, HBB.out⟩
                case measure => simp [intOf]; omega
            · obtain rfl : k = n := by omega
              have hi2 : I (baseF fs i (r + 1)) w4 := by
                have h1 := HI.out
                rw [List.take_of_length_le (by rw [HN.out]; exact Nat.le_refl _)] at h1
                rw [baseF_step fs i r hr2]
                exact h1
              have HI2 := Lib.hid hi2
              clear hi2 HI
              go_wp2_with fail
              go_roundw
              case rel => exact ⟨r + 1, by omega, by go_num, HI2.out, HBB.out⟩
              case measure => simp [intOf]; omega
        · obtain rfl : r = 2 := by omega
          have hi2 : I (cntR fs (i + 1)) w3 := by
            have h1 := HI.out
            rwa [baseF_two fs i hlt] at h1
          have HI2 := Lib.hid hi2
          clear hi2 HI
          go_wp2_with fail
          go_roundw
          case rel => exact ⟨i + 1, by omega, by go_num, HI2.out⟩
          case measure => simp [intOf]; omega
    · obtain rfl : i = fs.length := by omega
      go_wp2_with fail
      go_end0
      exact ⟨rfl, HI.out⟩
set_option maxRecDepth 100000 in
set_option maxHeartbeats 4000000 in
theorem eachS_any (lb jb : Nat) (sb : Nat) (lv : Value) (fs : List Fr) (vs : List FrV) (I : Nat → World → Prop) (w : World) (hn : fs.length ≤ 100000) (hlp : ∃ p c, lv = .slice p fs.length c) (hsz : ∀ i, i < fs.length → ∀ r, r < 2 → (rowF (fs.getD i default) r).length ≤ 100000)
    (hview : ∀ j W, I j W → EachV W sb lv fs vs) (hkeep : ∀ j W W', I j W → Upd [] W W' → I j W')
    (hcall : ∀ i, i < fs.length → ∀ r, r < 2 → ∀ k, k < (rowF (fs.getD i default) r).length → ((rowF (fs.getD i default) r).getD k default).ref = true → ∀ b n c, rowV (vs.getD i default) r = .slice (some ⟨b, 0, none⟩) n c → ∀ W, I (baseF fs i r + refN ((rowF (fs.getD i default) r).take k)) W →
      Calls Tryz.prog 46 #[.pointer (some ⟨b, k * 2, none⟩), .pointer (some ⟨lb, 0, none⟩), .pointer (some ⟨jb, 0, none⟩)] W fun e W' => e = .returned (.tuple #[]) ∧ I (baseF fs i r + refN ((rowF (fs.getD i default) r).take k) + 1) W' ∧ KeepR W W')
    (h0 : I 0 w) :
    Calls Tryz.prog 42 #[.pointer (some ⟨sb, 0, none⟩), .func (.func 46) #[] #[.pointer (some ⟨lb, 0, none⟩), .pointer (some ⟨jb, 0, none⟩)]] w fun e w' => e = .returned (.tuple #[]) ∧ I (cntR fs fs.length) w' := by
  have HV := Lib.hid hview
  have HK := Lib.hid hkeep
  have HC := Lib.hid hcall
  have HSZ := Lib.hid hsz
  have H0 := Lib.hid h0
  obtain ⟨p5, c5, rfl⟩ := hlp
  clear hview hkeep hcall hsz h0
  have m5 := (HV.out 0 w H0.out).hd
  go_enter Tryz.func42, Tryz.ntmps42
  go_wp2_with fail
  go_loopw [13] (fun iv wr => ∃ i : Nat, i ≤ fs.length ∧ iv = .int .i64 i ∧ Hid (I (cntR fs i) wr)) (fun iv _ => fs.length - (intOf iv).toNat)
  case atStart => exact ⟨0, by omega, rfl, H0.out⟩
  case round =>
    clear H0 m5
    obtain ⟨i, hi, rfl, HI⟩ := hrel
    obtain ⟨wo, rfl⟩ : ∃ wo : World, wo = wr := ⟨_, rfl⟩
    by_cases hlt : i < fs.length
    · have hv := HV.out _ _ HI.out
      have m5 := hv.hd
      obtain ⟨g, c, hlv, g2, g3⟩ := hv.row i hlt
      injection hlv with e1 _ e3
      subst e1 e3
      obtain ⟨pa, ca, ha, _⟩ := hv.form i hlt 0 (by omega)
      obtain ⟨pb, cb, hb, _⟩ := hv.form i hlt 1 (by omega)
      have ha2 : (vs.getD i default).lv = .slice pa (rowF (fs.getD i default) 0).length ca := ha
      have hb2 : (vs.getD i default).sv = .slice pb (rowF (fs.getD i default) 1).length cb := hb
      rw [ha2] at g2
      rw [hb2] at g3
      clear hv ha2 hb2
      have hza := HSZ.out i hlt 0 (by omega)
      have hzb := HSZ.out i hlt 1 (by omega)
      have HAB : Hid (∀ r, r < 2 → (#[Value.slice pa (rowF (fs.getD i default) 0).length ca, Value.slice pb (rowF (fs.getD i default) 1).length cb])[r]? = some (rowV (vs.getD i default) r)) := fun r hr => by
        have : r = 0 ∨ r = 1 := by omega
        rcases this with rfl | rfl
        · rw [ha]; rfl
        · rw [hb]; rfl
      clear ha hb
      generalize (rowF (fs.getD i default) 0).length = na at g2 HAB hza
      generalize (rowF (fs.getD i default) 1).length = nb at g3 HAB hzb
      go_upto_region 3 with fail
      go_region
      go_wp2_with fail
      have hud := ((Upd.refl [] wo).alloc (.cells #[.slice pa na ca, .slice pb nb cb] 45)).drew
      have hbb : ((wo.alloc (.cells #[.slice pa na ca, .slice pb nb cb] 45)).drew).heap[wo.heap.size]? = some (Obj.cells #[.slice pa na ca, .slice pb nb cb] 45) := (Upd.refl [] _).drew.heap (heap_alloc_new wo _) (by simp)
      have HI2 := Lib.hid (HK.out _ _ _ HI.out hud)
      have HBB := Lib.hid hbb
      clear hud hbb m5 g2 g3 HI
      generalize (wo.alloc (.cells #[.slice pa na ca, .slice pb nb cb] 45)).drew = w2 at HI2 HBB ⊢
      generalize wo.heap.size = B at HBB ⊢
      go_loopw [34] (fun rv wr => ∃ r : Nat, r ≤ 2 ∧ rv = .int .i64 r ∧ Hid (I (baseF fs i r) wr) ∧ Hid (wr.heap[B]? = some (Obj.cells #[.slice pa na ca, .slice pb nb cb] 45))) (fun rv _ => 2 - (intOf rv).toNat)
      case atStart => exact ⟨0, by omega, rfl, HI2.out, HBB.out⟩
      case round =>
        clear HI2 HBB
        obtain ⟨r, hr, rfl, HI, HBB⟩ := hrel
        obtain ⟨w3, rfl⟩ : ∃ w3 : World, w3 = wr := ⟨_, rfl⟩
        by_cases hr2 : r < 2
        · obtain ⟨p, c, hrv, hcells⟩ := (HV.out _ _ HI.out).form i hlt r hr2
          have hcell : w3.cell? ⟨B, r, none⟩ = some (.slice p (rowF (fs.getD i default) r).length c) := by
            rw [cell_of HBB.out, ← hrv]
            exact HAB.out r hr2
          have HRV := Lib.hid hrv
          have hnl := HSZ.out i hlt r hr2
          clear hcells hrv
          obtain ⟨n, hnn⟩ : ∃ n, (rowF (fs.getD i default) r).length = n := ⟨_, rfl⟩
          rw [hnn] at hcell hnl
          have HN := Lib.hid hnn
          clear hnn
          have hri : (r : Int) < 2 := by omega
          go_wp2_with fail
          go_loopw [40] (fun kv wr => ∃ k : Nat, k ≤ n ∧ kv = .int .i64 k ∧ Hid (I (baseF fs i r + refN ((rowF (fs.getD i default) r).take k)) wr) ∧ Hid (wr.heap[B]? = some (Obj.cells #[.slice pa na ca, .slice pb nb cb] 45))) (fun kv _ => n - (intOf kv).toNat)
          case atStart => exact ⟨0, by omega, rfl, HI.out, HBB.out⟩
          case round =>
            clear HI HBB hcell
            obtain ⟨k, hk, rfl, HI, HBB⟩ := hrel
            obtain ⟨w4, rfl⟩ : ∃ w4 : World, w4 = wr := ⟨_, rfl⟩
            by_cases hkl : k < n
            · obtain ⟨p2, c2, hrv, hcells⟩ := (HV.out _ _ HI.out).form i hlt r hr2
              obtain ⟨b, rfl, hcs⟩ := hcells (by rw [HN.out]; omega)
              rw [HRV.out] at hrv
              injection hrv with e1 e2 e3
              subst e1 e3
              clear e2
              have hkr : k < (rowF (fs.getD i default) r).length := by rw [HN.out]; exact hkl
              have hc := hcs k hkr
              have HT := Lib.hid (refN_take _ k hkr)
              have HCL := Lib.hid (hkr)
              clear hcs hcells
              cases hbv : ((rowF (fs.getD i default) r).getD k default).ref with
              | true =>
                have HCA := Lib.hid (HC.out i hlt r hr2 k hkr hbv b _ _ HRV.out w4 HI.out)
                have HT2 : Hid (refN ((rowF (fs.getD i default) r).take (k + 1)) = refN ((rowF (fs.getD i default) r).take k) + 1) := by
                  have := HT.out
                  rwa [if_pos hbv] at this
                rw [hbv] at hc
                clear hbv HT hkr
                go_wp2_with fail
                refine HCA.out.mono ?_
                rintro e w5 ⟨rfl, hi5, hk5⟩
                have HI5 := Lib.hid hi5
                have HB5 := Lib.hid (hk5 _ _ HBB.out)
                clear hi5 hk5 HCA HI HBB hc
                go_wp2_with fail
                go_roundw
                case rel => exact ⟨k + 1, by omega, by go_num, by rw [HT2.out, ← Nat.add_assoc]; exact HI5.out, HB5.out⟩
                case measure => simp [intOf]; omega
              | false =>
                have HT2 : Hid (refN ((rowF (fs.getD i default) r).take (k + 1)) = refN ((rowF (fs.getD i default) r).take k)) := by
                  have := HT.out
                  rw [if_neg (by rw [hbv]; decide)] at this
                  exact this
                rw [hbv] at hc
                clear hbv HT hkr
                go_wp2_with fail
                go_roundw
                case rel => exact ⟨k + 1, by omega, by go_num, by rw [HT2.out]; exact HI.out, HBB.out⟩
                case measure => simp [intOf]; omega
            · obtain rfl : k = n := by omega
              have hi2 : I (baseF fs i (r + 1)) w4 := by
                have h1 := HI.out
                rw [List.take_of_length_le (by rw [HN.out]; exact Nat.le_refl _)] at h1
                rw [baseF_step fs i r hr2]
                exact h1
              have HI2 := Lib.hid hi2
              clear hi2 HI
              go_wp2_with fail
              go_roundw
              case rel => exact ⟨r + 1, by omega, by go_num, HI2.out, HBB.out⟩
              case measure => simp [intOf]; omega
        · obtain rfl : r = 2 := by omega
          have hi2 : I (cntR fs (i + 1)) w3 := by
            have h1 := HI.out
            rwa [baseF_two fs i hlt] at h1
          have HI2 := Lib.hid hi2
          clear hi2 HI
          go_wp2_with fail
          go_roundw
          case rel => exact ⟨i + 1, by omega, by go_num, HI2.out⟩
          case measure => simp [intOf]; omega
    · obtain rfl : i = fs.length := by omega
      go_wp2_with fail
      go_end0
      exact ⟨rfl, HI.out⟩
end Go.Proofs.YtopojeanbpokaaaGreatDoor

/-! A stack of frames: Roots. -/
/-! A stack of frames: Roots. -/
namespace Go.Proofs.YtopojeanbpokaaaGreatDoor
open Go.RowKit

/-- The references of a row, of frames. -/
def rrS (xs : List Slt) : List Int := (xs.filter (·.ref)).map (·.n)
def rootsL (fs : List Fr) : List Int := fs.flatMap fun f => rrS f.loc ++ rrS f.stk
theorem rrS_len (xs : List Slt) : (rrS xs).length = refN xs := by simp [rrS, refN]
theorem rrS_app (xs ys : List Slt) : rrS (xs ++ ys) = rrS xs ++ rrS ys := by simp [rrS]
theorem rootsL_app (a b : List Fr) : rootsL (a ++ b) = rootsL a ++ rootsL b := by simp [rootsL]
theorem rootsL_len : ∀ fs : List Fr, (rootsL fs).length = (fs.map fun f => refN f.loc + refN f.stk).sum
  | [] => rfl
  | f :: fs => by
    have h := rootsL_len fs
    unfold rootsL at h ⊢
    rw [List.flatMap_cons, List.length_append, h, List.length_append, rrS_len, rrS_len]
    simp
theorem rootsL_cnt (fs : List Fr) (i : Nat) : (rootsL (fs.take i)).length = cntR fs i := by rw [rootsL_len]; rfl
theorem split_at {α : Type} [Inhabited α] (l : List α) (k : Nat) (h : k < l.length) : l = l.take k ++ l.getD k default :: l.drop (k + 1) := by
  rw [List.getD_eq_getElem?_getD, List.getElem?_eq_getElem h, Option.getD_some, List.getElem_cons_drop, List.take_append_drop]
/-- The reference at a place. -/
theorem roots_at (fs : List Fr) (i r k : Nat) (hi : i < fs.length) (hr : r < 2) (hk : k < (rowF (fs.getD i default) r).length) (hb : ((rowF (fs.getD i default) r).getD k default).ref = true) :
    ∃ P Q, rootsL fs = P ++ ((rowF (fs.getD i default) r).getD k default).n :: Q ∧ P.length = baseF fs i r + refN ((rowF (fs.getD i default) r).take k) := by
  have e1 := split_at fs i hi
  have e2 := split_at _ k hk
  have hone : ∀ x : Slt, x.ref = true → ∀ ys, rrS (x :: ys) = x.n :: rrS ys := fun x hx ys => by simp [rrS, hx]
  have e3 : rrS (rowF (fs.getD i default) r) = rrS ((rowF (fs.getD i default) r).take k) ++ ((rowF (fs.getD i default) r).getD k default).n :: rrS ((rowF (fs.getD i default) r).drop (k + 1)) := by
    have := congrArg rrS e2
    rwa [rrS_app, hone _ hb] at this
  have e4 : rootsL fs = rootsL (fs.take i) ++ (rrS (fs.getD i default).loc ++ rrS (fs.getD i default).stk ++ rootsL (fs.drop (i + 1))) := by
    have := congrArg rootsL e1
    rw [rootsL_app] at this
    rw [this]
    congr 1
  have : r = 0 ∨ r = 1 := by omega
  rcases this with rfl | rfl
  · have e5 : rowF (fs.getD i default) 0 = (fs.getD i default).loc := rfl
    rw [e5] at e3 ⊢
    refine ⟨rootsL (fs.take i) ++ rrS ((fs.getD i default).loc.take k), rrS ((fs.getD i default).loc.drop (k + 1)) ++ rrS (fs.getD i default).stk ++ rootsL (fs.drop (i + 1)), ?_, ?_⟩
    · rw [e4, e3]; simp
    · rw [List.length_append, rootsL_cnt, rrS_len]; simp [baseF]
  · have e5 : rowF (fs.getD i default) 1 = (fs.getD i default).stk := rfl
    rw [e5] at e3 ⊢
    refine ⟨rootsL (fs.take i) ++ rrS (fs.getD i default).loc ++ rrS ((fs.getD i default).stk.take k), rrS ((fs.getD i default).stk.drop (k + 1)) ++ rootsL (fs.drop (i + 1)), ?_, ?_⟩
    · rw [e4, e3]; simp
    · rw [List.length_append, List.length_append, rootsL_cnt, rrS_len, rrS_len]; simp [baseF]
theorem roots_take {fs : List Fr} {P Q : List Int} {n : Int} (h : rootsL fs = P ++ n :: Q) : (rootsL fs).take P.length = P ∧ (rootsL fs).take (P.length + 1) = P ++ [n] := by
  rw [h]
  refine ⟨by simp, ?_⟩
  rw [show P ++ n :: Q = (P ++ [n]) ++ Q by simp, List.take_append_of_le_length (by simp), List.take_of_length_le (by simp)]

/-- What each reads of a stack. -/
theorem StkAt.each {W0 w : World} {sb ib : Nat} {p : Prg} {ss : List Lk} {n0 n : Int} {cv mv : Value} {limit words : Int} {lv : Value} {fs : List Fr} {vs : List FrV} (h : StkAt W0 w sb ib p ss n0 n cv mv limit words lv fs vs) : EachV w sb lv fs vs := by
  refine ⟨by rw [cell_of h.box]; rfl, fun i hi => ?_, fun i hi r hr => ?_⟩
  · obtain ⟨g, c, h1, _, _, h2, h3⟩ := h.frs.cell hi
    exact ⟨g, c, h1, h2, h3⟩
  · have key : ∀ {v : Value} {xs : List Slt}, OwnSl w (sb + 1) v xs → ∃ p c, v = .slice p xs.length c ∧ (0 < xs.length → ∃ b, p = some ⟨b, 0, none⟩ ∧ ∀ k, k < xs.length → w.cell? ⟨b, k * 2, none⟩ = some (.bool (xs.getD k default).ref)) := fun {v xs} ho => by
      obtain ⟨b, hv, _⟩ := ho.read
      rcases hv.1 with ⟨rfl, rfl⟩ | ⟨c, rfl⟩
      · exact ⟨none, 0, rfl, fun h => by simp at h⟩
      · exact ⟨_, c, rfl, fun _ => ⟨b, rfl, fun k hk => (hv.2 k hk).1⟩⟩
    have : r = 0 ∨ r = 1 := by omega
    rcases this with rfl | rfl
    · exact key (h.frs.loc i hi)
    · exact key (h.frs.stk i hi)
/-- The number in a slot. -/
theorem StkAt.num {W0 w : World} {sb ib : Nat} {p : Prg} {ss : List Lk} {n0 n : Int} {cv mv : Value} {limit words : Int} {lv : Value} {fs : List Fr} {vs : List FrV} (h : StkAt W0 w sb ib p ss n0 n cv mv limit words lv fs vs) {i r k b m c : Nat} (hi : i < fs.length) (hr : r < 2) (hk : k < (rowF (fs.getD i default) r).length) (hv : rowV (vs.getD i default) r = .slice (some ⟨b, 0, none⟩) m c) :
    w.cell? ⟨b, k * 2 + 1, none⟩ = some (.int .i64 ((rowF (fs.getD i default) r).getD k default).n) ∧ sb < b ∧ ∃ cur, w.heap[b]? = some (.cells cur 44) := by
  have key : ∀ {v : Value} {xs : List Slt}, OwnSl w (sb + 1) v xs → k < xs.length → v = .slice (some ⟨b, 0, none⟩) m c → w.cell? ⟨b, k * 2 + 1, none⟩ = some (.int .i64 (xs.getD k default).n) ∧ sb < b ∧ ∃ cur, w.heap[b]? = some (.cells cur 44) := fun {v xs} ho hk hv => by
    subst hv
    obtain ⟨b', hv, _⟩ := ho.read
    rcases hv.1 with ⟨e, _⟩ | ⟨c', e⟩
    · cases e
    · injection e with e
      injection e with e
      injection e with e
      subst e
      have hlt := (World.ownsRow.lt ho b rfl).1
      exact ⟨(hv.2 k hk).2, by omega, ho.typed rfl⟩
  have : r = 0 ∨ r = 1 := by omega
  rcases this with rfl | rfl
  · exact key (h.frs.loc i hi) hk hv
  · exact key (h.frs.stk i hi) hk hv
theorem int_new (w : World) (x : Int) : ∀ j u, [Value.int .i64 x][j]? = some u → (w.alloc (.cells #[.int .i64 x] 3)).cell? ((⟨w.heap.size, 0, none⟩ : Addr).add j) = some u := by
  intro j u hj
  rw [Addr.add_lit, Nat.zero_add, cell_of (heap_alloc_new w _)]
  simpa using hj

set_option maxRecDepth 100000 in
set_option maxHeartbeats 4000000 in
theorem roots1_any (lb B b o : Nat) (x : Int) (xs : List Int) (v : Value) (w : World) (hb : w.heap[lb]? = some (.cells #[v] 63)) (hv : OwnI w B 3 v xs) (hx : w.cell? ⟨b, o + 1, none⟩ = some (.int .i64 x)) (hn : xs.length ≤ 100000000) (hB : B ≤ w.heap.size) :
    Calls Tryz.prog 47 #[.pointer (some ⟨b, o, none⟩), .pointer (some ⟨lb, 0, none⟩)] w fun e w' => e = .returned (.tuple #[]) ∧ ∃ v', w'.heap[lb]? = some (.cells #[v'] 63) ∧ OwnI w' B 3 v' (xs ++ [x]) ∧ Upd (lb :: v.ownBlock.toList) w w' := by
  obtain ⟨i0, hi, hz0, hz1, hz2⟩ := info_parts Tryz.infoInt
  have HI := Lib.hid hi
  have HZ0 := Lib.hid hz0
  have HZ1 := Lib.hid hz1
  have HZ2 := Lib.hid hz2
  clear hi hz0 hz1 hz2
  obtain ⟨p, c, rfl⟩ := hv.shape
  have hl : lb < w.heap.size := lt_of_heap hb
  have l0 : w.cell? ⟨lb, 0, none⟩ = some (.slice p xs.length c) := by rw [cell_of hb]; rfl
  have hdr := (Upd.refl [] w).drew
  have hal := (Upd.refl [] w.drew).alloc (.cells #[.int .i64 x] 3)
  have bl := (Upd.refl [] w).alloc (.cells #[.int .i64 x] 3)
  have dl0 := hdr.cell l0 (by simp)
  have dx := hdr.cell hx (by simp)
  have al0 := hal.cell dl0 (by simp)
  have ax := hal.cell dx (by simp)
  have bl0 := bl.cell l0 (by simp)
  have bx := bl.cell hx (by simp)
  have HROW : Hid ((w.drew.alloc (.cells #[.int .i64 x] 3)).ownsRow B 3 1 (.slice p xs.length c) xs.length (xs.map (Value.int .i64))) := row_upd hv (hdr.trans hal) (by simp)
  have HBd := Lib.hid ((hdr.trans hal).heap hb (by simp))
  have HV := Lib.hid hv
  clear hdr hal bl hb hv
  go_enter Tryz.func47, Tryz.ntmps47
  go_upto_region 0 with fail
  go_region_law (refine step_append_own_at rfl (.tmp 3) (.tmp 8) 63 rfl B 3 i0 (.int .i64 0) 1 8 Tryz.underlying63 HI.out HZ0.out HZ1.out HZ2.out rfl (by decide) (.slice p xs.length c) xs.length (xs.map (Value.int .i64)) rfl HROW.out ⟨w.heap.size, 0, none⟩ 1 1 [.int .i64 x] rfl rfl (int_new w.drew x) (by simp [Value.oneCell']) (by unfold maxLen; omega) (by omega) (by simp; omega) ?_; intro v' wN hown' hgrow hat; obtain ⟨gn, cn, rfl⟩ := ownsRow_succ hown'; have HGU := Lib.hid ((Upd.refl _ (w.drew.alloc (.cells #[.int .i64 x] 3))).grown hgrow (fun q hq => Or.inl (Option.mem_toList.2 hq))); have HBN := Lib.hid (HGU.out.heap HBd.out (fun hm => own_heap_ne HROW.out HBd.out (by decide) (Option.mem_toList.1 hm))); have z0N := cell_of HBN.out 0; have fzN := froz_of HBN.out 0; simp at z0N; have HOWN := Lib.hid hown'; clear hown' hgrow hat)
  all_goals
    go_wp2_with fail
    go_end0
    have hb7 := heap_setCell HBN.out 0 (.slice (some ⟨gn, 0, none⟩) (xs.length + 1) cn)
    have hst : Upd [lb] wN (wN.setCell ⟨lb, 0, none⟩ (.slice (some ⟨gn, 0, none⟩) (xs.length + 1) cn)) := (Upd.refl [lb] wN).setCell (.inl (by simp)) _
    have hne := own_heap_ne HOWN.out HBN.out (by decide)
    have ho : OwnI wN B 3 (.slice (some ⟨gn, 0, none⟩) (xs.length + 1) cn) (xs ++ [x]) := OwnI.snoc HOWN.out
    exact ⟨rfl, _, by rw [hb7]; rfl, ho.upd hst (fun q hq hm => hne (by rw [List.mem_singleton] at hm; rw [← hm]; exact hq)), ((((Upd.refl _ w).drew.alloc _).trans (HGU.out.mono (fun q hq _ => List.mem_cons_of_mem _ hq))).trans (hst.mono (fun q hq _ => by rw [List.mem_singleton] at hq; rw [hq]; exact List.mem_cons_self)))⟩

set_option maxRecDepth 100000 in
set_option maxHeartbeats 4000000 in
theorem sroots_any (W0 w : World) (sb ib : Nat) (p : Prg) (ss : List Lk) (n0 n : Int) (cv mv : Value) (limit words : Int) (lv : Value) (fs : List Fr) (vs : List FrV) (h : StkAt W0 w sb ib p ss n0 n cv mv limit words lv fs vs) (hn : fs.length ≤ 100000) (hsz : ∀ i, i < fs.length → ∀ r, r < 2 → (rowF (fs.getD i default) r).length ≤ 1000) (hrl : (rootsL fs).length ≤ 100000000) :
    Calls Tryz.prog 25 #[.pointer (some ⟨sb, 0, none⟩)] w fun e w' => ∃ u, e = .returned u ∧ OwnI w' w.heap.size 3 u (rootsL fs) ∧ Upd [] w w' := by
  have H := Lib.hid h
  have hsb : sb < w.heap.size := lt_of_heap h.box
  have hu1 := (Upd.refl [] w).alloc (.cells #[.slice none 0 0] 63)
  have hb1 := heap_alloc_new w (.cells #[.slice none 0 0] 63)
  have HE : Hid (Calls Tryz.prog 42 #[.pointer (some ⟨sb, 0, none⟩), .func (.func 47) #[] #[.pointer (some ⟨w.heap.size, 0, none⟩)]] (w.alloc (.cells #[.slice none 0 0] 63)) fun e w' => e = .returned (.tuple #[]) ∧ ∃ v, w'.heap[w.heap.size]? = some (.cells #[v] 63) ∧ OwnI w' w.heap.size 3 v ((rootsL fs).take (cntR fs fs.length)) ∧ Upd [] w w') := by
    refine eachR_any w.heap.size sb lv fs vs (fun j W => ∃ v, W.heap[w.heap.size]? = some (.cells #[v] 63) ∧ OwnI W w.heap.size 3 v ((rootsL fs).take j) ∧ Upd [] w W) _ hn h.frs.shape (fun i hi r hr => by have := hsz i hi r hr; omega) ?_ ?_ ?_ ⟨_, hb1, by rw [List.take_zero]; exact OwnI.nil _ _ _, hu1⟩
    · rintro j W ⟨v, _, _, hu⟩
      exact (H.out.same hu).each
    · rintro j W W' ⟨v, h1, h2, h3⟩ hu
      exact ⟨v, hu.heap h1 (by simp), h2.upd hu (by simp), h3.trans hu⟩
    · rintro i hi r hr k hk hbv b m c hrv W ⟨v, h1, h2, h3⟩
      obtain ⟨P, Q, hPQ, hPl⟩ := roots_at fs i r k hi hr hk hbv
      obtain ⟨t1, t2⟩ := roots_take hPQ
      rw [← hPl] at h2 ⊢
      rw [t1] at h2
      have hnum := (H.out.same h3).num hi hr hk hrv
      have hPn : P.length ≤ 100000000 := by
        have := congrArg List.length hPQ
        rw [List.length_append] at this
        omega
      refine (roots1_any w.heap.size w.heap.size b (k * 2) _ P v W h1 h2 hnum.1 hPn h3.size).mono ?_
      rintro e W' ⟨rfl, v', h4, h5, h6⟩
      refine ⟨rfl, ⟨v', h4, by rw [t2]; exact h5, h3.trans' h6 (fun q hq hl => ?_)⟩, fun q o hq => h6.heap hq (fun hm => ?_)⟩
      · rcases List.mem_cons.1 hq with hq | hq
        · omega
        · have := (World.ownsRow.lt h2 q (Option.mem_toList.1 hq)).1
          omega
      · rcases List.mem_cons.1 hm with hm | hm
        · subst hm
          rw [h1] at hq
          injection hq with hq
          injection hq with _ hq _
          exact absurd hq (by decide)
        · exact own_heap_ne h2 hq (by decide) (Option.mem_toList.1 hm)
  clear hu1 hb1 h
  have hall : (rootsL fs).take (cntR fs fs.length) = rootsL fs := by
    apply List.take_of_length_le
    rw [rootsL_len]
    unfold cntR
    rw [List.take_length]
    exact Nat.le_refl _
  rw [hall] at HE
  clear hall
  go_enter Tryz.func25, Tryz.ntmps25
  go_wp2_with fail
  refine HE.out.mono ?_
  rintro e w2 ⟨rfl, v, h1, h2, h3⟩
  obtain ⟨vp, vc, rfl⟩ := h2.shape
  have z0 : w2.cell? ⟨w.heap.size, 0, none⟩ = some (.slice vp (rootsL fs).length vc) := by rw [cell_of h1]; rfl
  have HO := Lib.hid h2
  have HU := Lib.hid h3
  clear h1 h2 h3 HE
  go_wp2_with fail
  go_ret
  exact ⟨_, rfl, HO.out, HU.out⟩
end Go.Proofs.YtopojeanbpokaaaGreatDoor

/-! A stack of frames: its references are set (plain, and in memory). -/
/-! A stack of frames: its references are set (plain, and in memory). -/
namespace Go.Proofs.YtopojeanbpokaaaGreatDoor
open Go.RowKit

/-- Rows that differ in their references' numbers alone. -/
structure AlikeR (a b : List Slt) : Prop where
  refs : a.map (·.ref) = b.map (·.ref)
  num : ∀ k, (a.getD k default).ref = false → (a.getD k default).n = (b.getD k default).n
theorem AlikeR.refl (a : List Slt) : AlikeR a a := ⟨rfl, fun _ _ => rfl⟩
theorem AlikeR.len {a b : List Slt} (h : AlikeR a b) : a.length = b.length := by
  have := congrArg List.length h.refs
  simpa using this
theorem AlikeR.ref_at {a b : List Slt} (h : AlikeR a b) (k : Nat) : (a.getD k default).ref = (b.getD k default).ref := by
  have h1 := h.refs
  have h2 : (a.map (·.ref))[k]? = (b.map (·.ref))[k]? := by rw [h1]
  rw [List.getElem?_map, List.getElem?_map] at h2
  rw [List.getD_eq_getElem?_getD, List.getD_eq_getElem?_getD]
  cases ha : a[k]? with
  | none =>
    cases hb : b[k]? with
    | none => rfl
    | some y => rw [ha, hb] at h2; cases h2
  | some x =>
    cases hb : b[k]? with
    | none => rw [ha, hb] at h2; cases h2
    | some y => rw [ha, hb] at h2; simpa using h2
theorem AlikeR.trans {a b c : List Slt} (h : AlikeR a b) (h2 : AlikeR b c) : AlikeR a c := ⟨h.refs.trans h2.refs, fun k hk => (h.num k hk).trans (h2.num k (by rw [← h.ref_at k]; exact hk))⟩
theorem refN_map (a : List Slt) : refN a = ((a.map (·.ref)).filter id).length := by
  unfold refN
  rw [List.filter_map, List.length_map]
  rfl
theorem AlikeR.refN {a b : List Slt} (h : AlikeR a b) : refN a = refN b := by rw [refN_map, refN_map, h.refs]
theorem AlikeR.refN_take {a b : List Slt} (h : AlikeR a b) (k : Nat) : Go.Proofs.YtopojeanbpokaaaGreatDoor.refN (a.take k) = Go.Proofs.YtopojeanbpokaaaGreatDoor.refN (b.take k) := by rw [refN_map, refN_map, List.map_take, List.map_take, h.refs]
theorem AlikeR.set (a : List Slt) (k : Nat) (x : Int) (hk : k < a.length) (hr : (a.getD k default).ref = true) : AlikeR a (a.set k ⟨true, x⟩) := by
  have hg : (a[k]).ref = true := by
    rw [List.getD_eq_getElem?_getD, List.getElem?_eq_getElem hk] at hr
    exact hr
  refine ⟨?_, fun j hj => ?_⟩
  · rw [List.map_set]
    have : (a.map (·.ref))[k]'(by simpa using hk) = true := by rw [List.getElem_map]; exact hg
    conv => rhs; rw [← this]
    rw [List.set_getElem_self]
  · by_cases e : j = k
    · subst e
      rw [hr] at hj
      cases hj
    · rw [List.getD_eq_getElem?_getD, List.getD_eq_getElem?_getD, List.getElem?_set_ne (fun h => e h.symm)]
theorem AlikeR.uniq : ∀ {a b : List Slt}, AlikeR a b → rrS a = rrS b → a = b
  | [], [], _, _ => rfl
  | [], y :: ys, h, _ => by have := h.len; simp at this
  | x :: xs, [], h, _ => by have := h.len; simp at this
  | ⟨r, n⟩ :: xs, ⟨r', n'⟩ :: ys, h, e => by
    have h1 := h.refs
    simp only [List.map_cons, List.cons.injEq] at h1
    obtain ⟨rfl, h2⟩ := h1
    have ht : AlikeR xs ys := ⟨h2, fun k hk => h.num (k + 1) hk⟩
    cases r with
    | true =>
      simp only [rrS, List.filter_cons, if_true, List.map_cons, List.cons.injEq] at e
      rw [e.1, ht.uniq e.2]
    | false =>
      have h0 := h.num 0 rfl
      simp only [rrS, List.filter_cons, Bool.false_eq_true, if_false] at e
      have h0 : n = n' := h0
      rw [h0, ht.uniq e]
structure AlikeF (a b : Fr) : Prop where
  m : a.m = b.m
  pc : a.pc = b.pc
  loc : AlikeR a.loc b.loc
  stk : AlikeR a.stk b.stk
structure AlikeL (a b : List Fr) : Prop where
  len : a.length = b.length
  at_ : ∀ i, AlikeF (a.getD i default) (b.getD i default)
theorem AlikeR.symm {a b : List Slt} (h : AlikeR a b) : AlikeR b a := ⟨h.refs.symm, fun k hk => (h.num k (by rw [h.ref_at k]; exact hk)).symm⟩
theorem AlikeF.symm {a b : Fr} (h : AlikeF a b) : AlikeF b a := ⟨h.m.symm, h.pc.symm, h.loc.symm, h.stk.symm⟩
theorem AlikeL.symm {a b : List Fr} (h : AlikeL a b) : AlikeL b a := ⟨h.len.symm, fun i => (h.at_ i).symm⟩
theorem AlikeF.refl (a : Fr) : AlikeF a a := ⟨rfl, rfl, AlikeR.refl _, AlikeR.refl _⟩
theorem AlikeF.trans {a b c : Fr} (h : AlikeF a b) (h2 : AlikeF b c) : AlikeF a c := ⟨h.m.trans h2.m, h.pc.trans h2.pc, h.loc.trans h2.loc, h.stk.trans h2.stk⟩
theorem AlikeL.refl (a : List Fr) : AlikeL a a := ⟨rfl, fun _ => AlikeF.refl _⟩
theorem AlikeL.trans {a b c : List Fr} (h : AlikeL a b) (h2 : AlikeL b c) : AlikeL a c := ⟨h.len.trans h2.len, fun i => (h.at_ i).trans (h2.at_ i)⟩
theorem AlikeF.row {a b : Fr} (h : AlikeF a b) (r : Nat) : AlikeR (rowF a r) (rowF b r) := by
  unfold rowF
  split
  · exact h.loc
  · exact h.stk
theorem AlikeL.tail {x y : Fr} {a b : List Fr} (h : AlikeL (x :: a) (y :: b)) : AlikeL a b := ⟨by simpa using h.len, fun i => h.at_ (i + 1)⟩
theorem AlikeL.uniq : ∀ {a b : List Fr}, AlikeL a b → rootsL a = rootsL b → a = b
  | [], [], _, _ => rfl
  | [], y :: ys, h, _ => by have := h.len; simp at this
  | x :: xs, [], h, _ => by have := h.len; simp at this
  | x :: xs, y :: ys, h, e => by
    have h0 : AlikeF x y := h.at_ 0
    have e1 : rrS x.loc ++ (rrS x.stk ++ rootsL xs) = rrS y.loc ++ (rrS y.stk ++ rootsL ys) := by
      have := e
      unfold rootsL at this ⊢
      rwa [List.flatMap_cons, List.flatMap_cons, List.append_assoc, List.append_assoc] at this
    obtain ⟨e2, e3⟩ := List.append_inj e1 (by rw [rrS_len, rrS_len, h0.loc.refN])
    obtain ⟨e4, e5⟩ := List.append_inj e3 (by rw [rrS_len, rrS_len, h0.stk.refN])
    have f1 := h0.loc.uniq e2
    have f2 := h0.stk.uniq e4
    have f3 := h.tail.uniq e5
    obtain ⟨m, pc, lo, st⟩ := x
    obtain ⟨m', pc', lo', st'⟩ := y
    have f4 : m = m' := h0.m
    have f5 : pc = pc' := h0.pc
    have f1 : lo = lo' := f1
    have f2 : st = st' := f2
    rw [f4, f5, f1, f2, f3]
theorem cntR_alike : ∀ {a b : List Fr}, AlikeL a b → ∀ i, cntR a i = cntR b i
  | [], [], _, _ => rfl
  | [], y :: ys, h, _ => by have := h.len; simp at this
  | x :: xs, [], h, _ => by have := h.len; simp at this
  | x :: xs, y :: ys, h, 0 => rfl
  | x :: xs, y :: ys, h, i + 1 => by
    have h0 : AlikeF x y := h.at_ 0
    have ih := cntR_alike h.tail i
    unfold cntR at ih ⊢
    rw [List.take_succ_cons, List.take_succ_cons, List.map_cons, List.map_cons, List.sum_cons, List.sum_cons, ih, h0.loc.refN, h0.stk.refN]
theorem baseF_alike {a b : List Fr} (h : AlikeL a b) (i r : Nat) : baseF a i r = baseF b i r := by
  unfold baseF
  rw [cntR_alike h i, (h.at_ i).loc.refN, (h.at_ i).stk.refN]

/-- A slot's number is set. -/
def updR (f : Fr) (r k : Nat) (x : Int) : Fr := if r = 0 then { f with loc := f.loc.set k ⟨true, x⟩ } else { f with stk := f.stk.set k ⟨true, x⟩ }
def updF (fs : List Fr) (i r k : Nat) (x : Int) : List Fr := fs.set i (updR (fs.getD i default) r k x)
theorem updR_alike (f : Fr) (r k : Nat) (x : Int) (hk : k < (rowF f r).length) (hr : ((rowF f r).getD k default).ref = true) : AlikeF f (updR f r k x) := by
  unfold updR
  unfold rowF at hk hr
  split
  · rename_i e
    rw [if_pos e] at hk hr
    exact ⟨rfl, rfl, AlikeR.set _ k x hk hr, AlikeR.refl _⟩
  · rename_i e
    rw [if_neg e] at hk hr
    exact ⟨rfl, rfl, AlikeR.refl _, AlikeR.set _ k x hk hr⟩
theorem getD_set_eq {α : Type} [Inhabited α] (l : List α) (i : Nat) (x : α) (h : i < l.length) : (l.set i x).getD i default = x := by
  rw [List.getD_eq_getElem?_getD, List.getElem?_set_self h, Option.getD_some]
theorem getD_set_ne {α : Type} [Inhabited α] (l : List α) (i j : Nat) (x : α) (h : i ≠ j) : (l.set i x).getD j default = l.getD j default := by
  rw [List.getD_eq_getElem?_getD, List.getElem?_set_ne h, ← List.getD_eq_getElem?_getD]
theorem updF_alike (fs : List Fr) (i r k : Nat) (x : Int) (hi : i < fs.length) (hk : k < (rowF (fs.getD i default) r).length) (hr : ((rowF (fs.getD i default) r).getD k default).ref = true) : AlikeL fs (updF fs i r k x) := by
  refine ⟨by simp [updF], fun j => ?_⟩
  unfold updF
  by_cases e : i = j
  · subst e
    rw [getD_set_eq _ _ _ hi]
    exact updR_alike _ r k x hk hr
  · rw [getD_set_ne _ _ _ _ e]
    exact AlikeF.refl _
theorem rrS_set (xs : List Slt) (k : Nat) (x : Int) (hk : k < xs.length) : ∃ P Q, rrS (xs.set k ⟨true, x⟩) = P ++ x :: Q ∧ P.length = refN (xs.take k) ∧ ((xs.getD k default).ref = true → rrS xs = P ++ (xs.getD k default).n :: Q) := by
  have e2 := split_at xs k hk
  refine ⟨rrS (xs.take k), rrS (xs.drop (k + 1)), ?_, rrS_len _, fun hr => ?_⟩
  · have e3 : xs.set k ⟨true, x⟩ = xs.take k ++ ⟨true, x⟩ :: xs.drop (k + 1) := List.set_eq_take_append_cons_drop.trans (if_pos hk)
    rw [e3, rrS_app]
    simp [rrS]
  · have := congrArg rrS e2
    rw [rrS_app] at this
    have hone : ∀ y : Slt, y.ref = true → ∀ ys, rrS (y :: ys) = y.n :: rrS ys := fun y hy ys => by simp [rrS, hy]
    rw [this, hone _ hr]
theorem roots_upd (fs : List Fr) (i r k : Nat) (x : Int) (hi : i < fs.length) (hr : r < 2) (hk : k < (rowF (fs.getD i default) r).length) (hb : ((rowF (fs.getD i default) r).getD k default).ref = true) :
    ∃ P Q, rootsL fs = P ++ ((rowF (fs.getD i default) r).getD k default).n :: Q ∧ rootsL (updF fs i r k x) = P ++ x :: Q ∧ P.length = baseF fs i r + refN ((rowF (fs.getD i default) r).take k) := by
  have e1 := split_at fs i hi
  have e3 : updF fs i r k x = fs.take i ++ updR (fs.getD i default) r k x :: fs.drop (i + 1) := List.set_eq_take_append_cons_drop.trans (if_pos hi)
  have r1 : ∀ f : Fr, rootsL (fs.take i ++ f :: fs.drop (i + 1)) = rootsL (fs.take i) ++ (rrS f.loc ++ rrS f.stk ++ rootsL (fs.drop (i + 1))) := fun f => by
    rw [rootsL_app]
    congr 1
  obtain ⟨P, Q, h1, h2, h3⟩ := rrS_set (rowF (fs.getD i default) r) k x hk
  have h3 := h3 hb
  have e4 := (congrArg rootsL e1).trans (r1 _)
  have e5 := (congrArg rootsL e3).trans (r1 _)
  have : r = 0 ∨ r = 1 := by omega
  rcases this with rfl | rfl
  · have u1 : rowF (fs.getD i default) 0 = (fs.getD i default).loc := rfl
    have u2 : (updR (fs.getD i default) 0 k x).loc = (fs.getD i default).loc.set k ⟨true, x⟩ := rfl
    have u3 : (updR (fs.getD i default) 0 k x).stk = (fs.getD i default).stk := rfl
    rw [u1] at h1 h2 h3 ⊢
    refine ⟨rootsL (fs.take i) ++ P, Q ++ rrS (fs.getD i default).stk ++ rootsL (fs.drop (i + 1)), ?_, ?_, ?_⟩
    · rw [e4, h3]; simp
    · rw [e5, u2, u3, h1]; simp
    · rw [List.length_append, rootsL_cnt, h2]; simp [baseF]
  · have u1 : rowF (fs.getD i default) 1 = (fs.getD i default).stk := rfl
    have u2 : (updR (fs.getD i default) 1 k x).stk = (fs.getD i default).stk.set k ⟨true, x⟩ := rfl
    have u3 : (updR (fs.getD i default) 1 k x).loc = (fs.getD i default).loc := rfl
    rw [u1] at h1 h2 h3 ⊢
    refine ⟨rootsL (fs.take i) ++ rrS (fs.getD i default).loc ++ P, Q ++ rootsL (fs.drop (i + 1)), ?_, ?_, ?_⟩
    · rw [e4, h3]; simp
    · rw [e5, u2, u3, h1]; simp
    · rw [List.length_append, List.length_append, rootsL_cnt, rrS_len, h2]; simp [baseF]

theorem ownsRow_set {w : World} {B : Nat} {e : TypeId} {s g n c : Nat} {xs : List Value} (h : w.ownsRow B e s (.slice (some ⟨g, 0, none⟩) n c) n xs) (j : Nat) (u : Value) : (w.setCell ⟨g, j, none⟩ u).ownsRow B e s (.slice (some ⟨g, 0, none⟩) n c) n (xs.set j u) := by
  obtain ⟨h0, h1⟩ := h
  refine ⟨by rw [List.length_set]; exact h0, ?_⟩
  rcases h1 with ⟨h1, _⟩ | ⟨g1, c1, cur, h1, h2, h3, h4, h5, h6, h7⟩
  · cases h1
  · injection h1 with e1 _ e3
    injection e1 with e1
    injection e1 with e1
    subst e1 e3
    refine .inr ⟨g, c, cur.setIfInBounds j u, rfl, h2, heap_setCell h3 _ _, h4, h5, by simpa using h6, ?_⟩
    rw [Array.toList_setIfInBounds, List.take_set, h7]
theorem slcells_set : ∀ (xs : List Slt) (k : Nat) (x : Int), k < xs.length → (xs.getD k default).ref = true → slcells (xs.set k ⟨true, x⟩) = (slcells xs).set (k * 2 + 1) (.int .i64 x)
  | [], k, _, h, _ => by simp at h
  | ⟨r, n⟩ :: xs, 0, x, _, hr => by
    have : r = true := hr
    subst this
    rfl
  | y :: xs, k + 1, x, h, hr => by
    have ih := slcells_set xs k x (by simpa using h) hr
    have e : (k + 1) * 2 + 1 = k * 2 + 1 + 1 + 1 := by omega
    rw [e, List.set_cons_succ]
    simp only [slcells, List.set_cons_succ]
    rw [ih]
theorem frcells_alike : ∀ {a b : List Fr} (vs : List FrV), AlikeL a b → frcells a vs = frcells b vs
  | [], [], _, _ => rfl
  | [], y :: ys, _, h => by have := h.len; simp at this
  | x :: xs, [], _, h => by have := h.len; simp at this
  | x :: xs, y :: ys, [], h => rfl
  | x :: xs, y :: ys, v :: vs, h => by
    have h0 : AlikeF x y := h.at_ 0
    simp only [frcells]
    rw [h0.m, h0.pc, frcells_alike vs h.tail]
/-- A slot's number is written. -/
theorem FrsAt.setN {w : World} {B : Nat} {lv : Value} {fs : List Fr} {vs : List FrV} (h : FrsAt w B lv fs vs) {i r k b m c : Nat} (x : Int) (hi : i < fs.length) (hr : r < 2) (hk : k < (rowF (fs.getD i default) r).length) (hb : ((rowF (fs.getD i default) r).getD k default).ref = true) (hv : rowV (vs.getD i default) r = .slice (some ⟨b, 0, none⟩) m c) :
    FrsAt (w.setCell ⟨b, k * 2 + 1, none⟩ (.int .i64 x)) B lv (updF fs i r k x) vs := by
  have hal := updF_alike fs i r k x hi hk hb
  have hu : Upd [b] w (w.setCell ⟨b, k * 2 + 1, none⟩ (.int .i64 x)) := (Upd.refl [b] w).setCell (.inl (by simp)) _
  have hhas : (vs.getD i default).has b := by
    unfold rowV at hv
    split at hv
    · exact .inl (by rw [hv]; rfl)
    · exact .inr (by rw [hv]; rfl)
  have keep : ∀ {v : Value} {xs : List Slt}, OwnSl w B v xs → v.ownBlock ≠ some b → OwnSl (w.setCell ⟨b, k * 2 + 1, none⟩ (.int .i64 x)) B v xs := fun ho hne => ho.upd hu (fun q hq hm => hne (by rw [List.mem_singleton] at hm; rw [← hm]; exact hq))
  have turn : ∀ {v : Value} {xs : List Slt}, OwnSl w B v xs → v = .slice (some ⟨b, 0, none⟩) m c → k < xs.length → (xs.getD k default).ref = true → OwnSl (w.setCell ⟨b, k * 2 + 1, none⟩ (.int .i64 x)) B v (xs.set k ⟨true, x⟩) := fun {v xs} ho hv hk hr => by
    subst hv
    have hm : m = xs.length := by
      obtain ⟨_, _, e⟩ := ho.shape
      injection e
    subst hm
    unfold OwnSl
    rw [List.length_set, slcells_set xs k x hk hr]
    exact ownsRow_set ho _ _
  have fj : ∀ j, (updF fs i r k x).getD j default = if i = j then updR (fs.getD i default) r k x else fs.getD j default := fun j => by
    unfold updF
    split
    · rename_i e
      subst e
      exact getD_set_eq _ _ _ hi
    · rename_i e
      exact getD_set_ne _ _ _ _ e
  refine ⟨?_, by rw [← hal.len]; exact h.len, fun j hj => ?_, fun j hj => ?_, fun j hj => h.two j (by rw [hal.len]; exact hj), fun j q hj hq => h.apart j q (by rw [hal.len]; exact hj) (by rw [hal.len]; exact hq)⟩
  · rw [← hal.len, ← frcells_alike vs hal]
    exact row_upd h.row hu (fun q hq hm => by
      rw [List.mem_singleton] at hm
      subst hm
      exact h.has_ne hi hhas hq)
  · have hj : j < fs.length := by rw [hal.len]; exact hj
    rw [fj j]
    have h1 := h.loc j hj
    by_cases e : i = j
    · subst e
      rw [if_pos rfl]
      by_cases e2 : r = 0
      · subst e2
        exact turn h1 hv hk hb
      · have e3 : (updR (fs.getD i default) r k x).loc = (fs.getD i default).loc := by unfold updR; rw [if_neg e2]
        rw [e3]
        refine keep h1 (fun hq => ?_)
        have h4 : (vs.getD i default).sv = .slice (some ⟨b, 0, none⟩) m c := by unfold rowV at hv; rwa [if_neg e2] at hv
        exact h.two i hi b hq (by rw [h4]; rfl)
    · rw [if_neg e]
      exact keep h1 (fun hq => h.apart i j hi hj e b hhas (.inl hq))
  · have hj : j < fs.length := by rw [hal.len]; exact hj
    rw [fj j]
    have h1 := h.stk j hj
    by_cases e : i = j
    · subst e
      rw [if_pos rfl]
      by_cases e2 : r = 0
      · have e3 : (updR (fs.getD i default) r k x).stk = (fs.getD i default).stk := by unfold updR; rw [if_pos e2]
        rw [e3]
        refine keep h1 (fun hq => ?_)
        have h4 : (vs.getD i default).lv = .slice (some ⟨b, 0, none⟩) m c := by unfold rowV at hv; rwa [if_pos e2] at hv
        exact h.two i hi b (by rw [h4]; rfl) hq
      · have e4 : r = 1 := by omega
        subst e4
        exact turn h1 hv hk hb
    · rw [if_neg e]
      exact keep h1 (fun hq => h.apart i j hi hj e b hhas (.inr hq))
end Go.Proofs.YtopojeanbpokaaaGreatDoor

/-! A stack of frames: SetRoots, where there are as many. -/
/-! A stack of frames: SetRoots, where there are as many. -/
namespace Go.Proofs.YtopojeanbpokaaaGreatDoor
open Go.RowKit

theorem FrsAt.offT {w w' : World} {B q : Nat} {cur : Array Value} {t : TypeId} {lv : Value} {fs : List Fr} {vs : List FrV} (h : FrsAt w B lv fs vs) (hq : w.heap[q]? = some (.cells cur t)) (h1 : 44 ≠ t) (h2 : 110 ≠ t) (hu : Upd [q] w w') : FrsAt w' B lv fs vs := by
  have offS : ∀ {v : Value} {xs : List Slt}, OwnSl w B v xs → OwnSl w' B v xs := fun ho => ho.upd hu (fun k hk hm => by
    rw [List.mem_singleton] at hm
    subst hm
    exact own_heap_ne ho hq h1 hk)
  exact ⟨row_upd h.row hu (fun k hk hm => by
    rw [List.mem_singleton] at hm
    subst hm
    exact own_heap_ne h.row hq h2 hk), h.len, fun i hi => offS (h.loc i hi), fun i hi => offS (h.stk i hi), h.two, h.apart⟩

set_option maxRecDepth 100000 in
theorem setr1_any (nb j : Nat) (a : Value) (w : World) (hb : w.heap[nb]? = some (.cells #[.int .i64 j] 3)) (hj : j ≤ 100000000) :
    Calls Tryz.prog 43 #[a, .pointer (some ⟨nb, 0, none⟩)] w fun e w' => e = .returned (.tuple #[]) ∧ w' = w.setCell ⟨nb, 0, none⟩ (.int .i64 ((j + 1 : Nat) : Int)) := by
  have l0 : w.cell? ⟨nb, 0, none⟩ = some (.int .i64 j) := by rw [cell_of hb]; rfl
  have f0 := froz_of hb 0
  clear hb
  go_enter Tryz.func43, Tryz.ntmps43
  go_wp2_with fail
  go_end0
  refine ⟨rfl, ?_⟩
  rfl

set_option maxRecDepth 100000 in
theorem setr2_any (x : Int) (w : World) :
    Calls Tryz.prog 45 #[.int .i64 x] w fun e w' => e = .returned (.bool (decide (x < 0))) ∧ w' = w := by
  go_enter Tryz.func45, Tryz.ntmps45
  go_wp2_with fail
  go_ret
  exact ⟨rfl, rfl⟩

set_option maxRecDepth 100000 in
set_option maxHeartbeats 1000000 in
theorem setr3_any (lb jb nb q o n c j : Nat) (cur : Array Value) (x y : Int) (w : World) (hl : w.cell? ⟨lb, 0, none⟩ = some (.slice (some ⟨nb, 0, none⟩) n c)) (hj : w.heap[jb]? = some (.cells #[.int .i64 j] 3)) (hjn : j < n) (hn : n ≤ 100000000) (hx : w.cell? ⟨nb, j, none⟩ = some (.int .i64 x)) (hq : w.heap[q]? = some (.cells cur 44)) (hy : w.cell? ⟨q, o + 1, none⟩ = some (.int .i64 y)) :
    Calls Tryz.prog 46 #[.pointer (some ⟨q, o, none⟩), .pointer (some ⟨lb, 0, none⟩), .pointer (some ⟨jb, 0, none⟩)] w fun e w' => e = .returned (.tuple #[]) ∧ w' = (w.setCell ⟨q, o + 1, none⟩ (.int .i64 x)).setCell ⟨jb, 0, none⟩ (.int .i64 ((j + 1 : Nat) : Int)) := by
  have l0 : w.cell? ⟨jb, 0, none⟩ = some (.int .i64 j) := by rw [cell_of hj]; rfl
  have fq := froz_of hq (o + 1)
  have hne : jb ≠ q := by
    rintro rfl
    rw [hj] at hq
    injection hq with hq
    injection hq with _ hq _
    exact absurd hq (by decide)
  have hst : Upd [q] w (w.setCell ⟨q, o + 1, none⟩ (.int .i64 x)) := (Upd.refl [q] w).setCell (.inl (by simp)) _
  have hj2 := hst.heap hj (by simpa using hne)
  have l1 : (w.setCell ⟨q, o + 1, none⟩ (.int .i64 x)).cell? ⟨jb, 0, none⟩ = some (.int .i64 j) := by rw [cell_of hj2]; rfl
  have f1 := froz_of hj2 0
  have hji : (j : Int) < (n : Int) := by omega
  clear hj hq hj2 hst
  go_enter Tryz.func46, Tryz.ntmps46
  go_wp2_with fail
  go_end0
  refine ⟨rfl, ?_⟩
  rfl

set_option maxRecDepth 100000 in
set_option maxHeartbeats 2000000 in
/-- None below 0. -/
theorem contains_no (v : Value) (b : Nat) (xs : List Int) (w : World) (h : IntsV w v b xs) (hx : ∀ x ∈ xs, 0 ≤ x) (hn : xs.length ≤ 100000000) :
    Calls Tryz.prog 44 #[v, .func (.func 45) #[] #[]] w fun e w' => e = .returned (.bool false) ∧ w' = w := by
  have hi : Calls Tryz.prog 60 #[v, .func (.func 45) #[] #[]] w fun e w' => e = .returned (.int .i64 (-1)) ∧ w' = w := by
    obtain ⟨p, c, rfl⟩ := h.form
    have H := Lib.hid h
    have HX := Lib.hid hx
    clear h hx
    go_enter Tryz.func60, Tryz.ntmps60
    go_wp2_with fail
    go_loopw [5, 8] (fun _ kv wr => ∃ k : Nat, k ≤ xs.length ∧ kv = .int .i64 k ∧ wr = w) (fun _ kv _ => xs.length - (intOf kv).toNat)
    case atStart => exact ⟨0, by omega, rfl, rfl⟩
    case round =>
      obtain ⟨k, hk, rfl, rfl⟩ := hrel
      by_cases hlt : k < xs.length
      · obtain ⟨h1, h2⟩ := sints_nth _ _ _ _ _ H.out k hlt
        subst h1
        have hge := HX.out (xs.getD k 0) (by
          rw [List.getD_eq_getElem?_getD, List.getElem?_eq_getElem hlt, Option.getD_some]
          exact List.getElem_mem hlt)
        generalize xs.getD k 0 = x at h2 hge
        have hd : decide (x < 0) = false := decide_eq_false (by omega)
        go_wp2_with fail
        refine (setr2_any x _).mono ?_
        rintro e w' ⟨rfl, rfl⟩
        go_wp2_with fail
        go_roundw
        case rel => exact ⟨k + 1, by omega, by go_num, trivial⟩
        case measure => simp [intOf]; omega
      · go_wp2_with fail
        go_ret
        exact ⟨rfl, rfl⟩
  clear h hx
  go_enter Tryz.func44, Tryz.ntmps44
  go_wp2_with fail
  refine hi.mono ?_
  rintro e w' ⟨rfl, rfl⟩
  go_wp2_with fail
  go_ret
  exact ⟨rfl, rfl⟩
end Go.Proofs.YtopojeanbpokaaaGreatDoor
namespace Go.Proofs.YtopojeanbpokaaaGreatDoor
open Go.RowKit
theorem EachV.alike {W : World} {sb : Nat} {lv : Value} {fs fs' : List Fr} {vs : List FrV} (h : EachV W sb lv fs' vs) (ha : AlikeL fs fs') : EachV W sb lv fs vs := by
  refine ⟨h.hd, fun i hi => ?_, fun i hi r hr => ?_⟩
  · have h1 := h.row i (by rw [← ha.len]; exact hi)
    rw [← ha.len] at h1
    exact h1
  · have h1 := h.form i (by rw [← ha.len]; exact hi) r hr
    have h2 := (ha.at_ i).row r
    rw [← h2.len] at h1
    obtain ⟨p, c, h3, h4⟩ := h1
    refine ⟨p, c, h3, fun h5 => ?_⟩
    obtain ⟨b, h6, h7⟩ := h4 h5
    exact ⟨b, h6, fun k hk => by rw [h2.ref_at k]; exact h7 k hk⟩

set_option maxRecDepth 100000 in
set_option maxHeartbeats 4000000 in
theorem ssetroots_own (W0 w : World) (sb ib : Nat) (p : Prg) (ss : List Lk) (n0 n : Int) (cv mv : Value) (limit words : Int) (lv : Value) (fs : List Fr) (vs : List FrV) (nv : Value) (nb : Nat) (ns : List Int) (h : StkAt W0 w sb ib p ss n0 n cv mv limit words lv fs vs) (hn : fs.length ≤ 100000) (hsz : ∀ i, i < fs.length → ∀ r, r < 2 → (rowF (fs.getD i default) r).length ≤ 1000)
    (hv : IntsV w nv nb ns) (hb : ns = [] ∨ ∃ cur, w.heap[nb]? = some (.cells cur 3)) (hl : ns.length = (rootsL fs).length) (hl2 : ns.length ≤ 10000000) (hx : ∀ x ∈ ns, 0 ≤ x) :
    Calls Tryz.prog 20 #[.pointer (some ⟨sb, 0, none⟩), nv] w fun e w' => e = .returned (.bool true) ∧ (∃ fs', StkAt W0 w' sb ib p ss n0 n cv mv limit words lv fs' vs ∧ AlikeL fs fs' ∧ rootsL fs' = ns) ∧ (∀ (q : Nat) (cur : Array Value), w.heap[q]? = some (Obj.cells cur 3) → w'.heap[q]? = some (Obj.cells cur 3)) ∧ ∃ T, (∀ t ∈ T, sb < t ∧ (w.heap.size ≤ t ∨ ∃ i, i < fs.length ∧ (vs.getD i default).has t)) ∧ Upd T w w' := by
  obtain ⟨np, nc, rfl⟩ := hv.form
  have H := Lib.hid h
  have hsb : sb < w.heap.size := lt_of_heap h.box
  have hcnt : cntR fs fs.length = (rootsL fs).length := by
    rw [rootsL_len]
    unfold cntR
    rw [List.take_length]
  -- the boxes
  have hu1 := ((Upd.refl [] w).alloc (.cells #[.slice np ns.length nc] 63)).alloc (.cells #[.int .i64 0] 3)
  have hb1 := ((Upd.refl [] (w.alloc (.cells #[.slice np ns.length nc] 63))).alloc (.cells #[.int .i64 0] 3)).heap (heap_alloc_new w (.cells #[.slice np ns.length nc] 63)) (by simp)
  have hb2 := heap_alloc_new (w.alloc (.cells #[.slice np ns.length nc] 63)) (.cells #[.int .i64 0] 3)
  rw [show (w.alloc (.cells #[.slice np ns.length nc] 63)).heap.size = w.heap.size + 1 by simp] at hb2
  have HE1 : Hid (Calls Tryz.prog 42 #[.pointer (some ⟨sb, 0, none⟩), .func (.func 43) #[] #[.pointer (some ⟨w.heap.size + 1, 0, none⟩)]] ((w.alloc (.cells #[.slice np ns.length nc] 63)).alloc (.cells #[.int .i64 0] 3)) fun e w' => e = .returned (.tuple #[]) ∧ w'.heap[w.heap.size + 1]? = some (.cells #[.int .i64 (cntR fs fs.length : Nat)] 3) ∧ w'.heap[w.heap.size]? = some (.cells #[.slice np ns.length nc] 63) ∧ Upd [] w w') := by
    refine eachN_any (w.heap.size + 1) sb lv fs vs (fun j W => W.heap[w.heap.size + 1]? = some (.cells #[.int .i64 (j : Nat)] 3) ∧ W.heap[w.heap.size]? = some (.cells #[.slice np ns.length nc] 63) ∧ Upd [] w W) _ hn h.frs.shape (fun i hi r hr => by have := hsz i hi r hr; omega) ?_ ?_ ?_ ⟨hb2, hb1, hu1⟩
    · rintro j W ⟨_, _, hu⟩
      exact (H.out.same hu).each
    · rintro j W W' ⟨h1, h2, h3⟩ hu
      exact ⟨hu.heap h1 (by simp), hu.heap h2 (by simp), h3.trans hu⟩
    · rintro i hi r hr k hk hbv b m c hrv W ⟨h1, h2, h3⟩
      obtain ⟨P, Q, hPQ, hPl⟩ := roots_at fs i r k hi hr hk hbv
      rw [← hPl] at h1 ⊢
      have hPn : P.length ≤ 10000000 := by
        have := congrArg List.length hPQ
        rw [List.length_append] at this
        omega
      refine (setr1_any (w.heap.size + 1) P.length _ W h1 (by omega)).mono ?_
      rintro e W' ⟨rfl, rfl⟩
      have hst : Upd [w.heap.size + 1] W (W.setCell ⟨w.heap.size + 1, 0, none⟩ (.int .i64 ((P.length + 1 : Nat) : Int))) := (Upd.refl [w.heap.size + 1] W).setCell (.inl (by simp)) _
      refine ⟨rfl, ⟨by rw [heap_setCell h1]; rfl, hst.heap h2 (by simp), h3.trans' hst (fun q hq hl => by rw [List.mem_singleton] at hq; omega)⟩, fun q o hq => hst.heap hq (fun hm => ?_)⟩
      rw [List.mem_singleton] at hm
      subst hm
      rw [h1] at hq
      injection hq with hq
      injection hq with _ hq _
      exact absurd hq (by decide)
  have HV := Lib.hid hv
  have HX := Lib.hid hx
  rw [hcnt, ← hl] at HE1
  have HLN := Lib.hid hl
  have HCT := Lib.hid hcnt
  clear hu1 hb1 hb2 h hl hcnt hv hx
  go_enter Tryz.func20, Tryz.ntmps20
  go_wp2_with fail
  refine HE1.out.mono ?_
  rintro e w2 ⟨rfl, h1, h2, hu2⟩
  have z0 : w2.cell? ⟨w.heap.size + 1, 0, none⟩ = some (.int .i64 (ns.length : Nat)) := by rw [cell_of h1]; rfl
  have z1 : w2.cell? ⟨w.heap.size, 0, none⟩ = some (.slice np ns.length nc) := by rw [cell_of h2]; rfl
  have HCN := Lib.hid (contains_no _ nb ns w2 (HV.out.upd hu2 (.inr (by simp))) HX.out (by omega))
  have HU2 := Lib.hid hu2
  have HL2 := Lib.hid h2
  clear h1 h2 hu2 HE1
  go_wp2_with fail
  refine HCN.out.mono ?_
  rintro e w2 ⟨rfl, rfl⟩
  have hu3 := (Upd.refl [] w2).alloc (.cells #[.int .i64 0] 3)
  have hj3 := heap_alloc_new w2 (.cells #[.int .i64 0] 3)
  have HU3 := Lib.hid (HU2.out.trans hu3)
  have HL3 := Lib.hid (hu3.heap HL2.out (by simp))
  have HJ3 := Lib.hid hj3
  have HZ2 := Lib.hid HU2.out.size
  clear hu3 hj3 z0 z1 HCN HL2 HU2
  go_upto_region 6 with fail
  generalize w2.alloc (.cells #[.int .i64 0] 3) = w3 at HU3 HL3 HJ3 ⊢
  generalize w2.heap.size = jb at HJ3 HZ2 ⊢
  have HE3 : Hid (Calls Tryz.prog 42 #[.pointer (some ⟨sb, 0, none⟩), .func (.func 46) #[] #[.pointer (some ⟨w.heap.size, 0, none⟩), .pointer (some ⟨jb, 0, none⟩)]] w3 fun e w' => e = .returned (.tuple #[]) ∧ ∃ fs' T, StkAt W0 w' sb ib p ss n0 n cv mv limit words lv fs' vs ∧ AlikeL fs fs' ∧ rootsL fs' = ns.take (cntR fs fs.length) ++ (rootsL fs).drop (cntR fs fs.length) ∧ w'.heap[jb]? = some (.cells #[.int .i64 (cntR fs fs.length : Nat)] 3) ∧ w'.heap[w.heap.size]? = some (.cells #[.slice np ns.length nc] 63) ∧ IntsV w' (.slice np ns.length nc) nb ns ∧ (ns = [] ∨ ∃ cur, w'.heap[nb]? = some (.cells cur 3)) ∧ (∀ t ∈ T, sb < t ∧ (w.heap.size ≤ t ∨ ∃ i, i < fs.length ∧ (vs.getD i default).has t)) ∧ (∀ (q : Nat) (cur : Array Value), w.heap[q]? = some (Obj.cells cur 3) → w'.heap[q]? = some (Obj.cells cur 3)) ∧ Upd T w w') := by
    refine eachS_any w.heap.size jb sb lv fs vs (fun j W => ∃ fs' T, StkAt W0 W sb ib p ss n0 n cv mv limit words lv fs' vs ∧ AlikeL fs fs' ∧ rootsL fs' = ns.take j ++ (rootsL fs).drop j ∧ W.heap[jb]? = some (.cells #[.int .i64 (j : Nat)] 3) ∧ W.heap[w.heap.size]? = some (.cells #[.slice np ns.length nc] 63) ∧ IntsV W (.slice np ns.length nc) nb ns ∧ (ns = [] ∨ ∃ cur, W.heap[nb]? = some (.cells cur 3)) ∧ (∀ t ∈ T, sb < t ∧ (w.heap.size ≤ t ∨ ∃ i, i < fs.length ∧ (vs.getD i default).has t)) ∧ (∀ (q : Nat) (cur : Array Value), w.heap[q]? = some (Obj.cells cur 3) → W.heap[q]? = some (Obj.cells cur 3)) ∧ Upd T w W) _ hn H.out.frs.shape (fun i hi r hr => by have := hsz i hi r hr; omega) ?_ ?_ ?_ ?_
    · rintro j W ⟨fs', T, hst, hal, _⟩
      exact hst.each.alike hal
    · rintro j W W' ⟨fs', T, h1, h2, h3, h4, h5, h6, h7, h8, hki, h9⟩ hu
      exact ⟨fs', T, h1.same hu, h2, h3, hu.heap h4 (by simp), hu.heap h5 (by simp), h6.upd hu (.inr (by simp)), h7.elim .inl (fun ⟨cur, h⟩ => .inr ⟨cur, hu.heap h (by simp)⟩), h8, fun q cur hq => hu.heap (hki q cur hq) (by simp), h9.trans (hu.mono (by simp))⟩
    · rintro i hi r hr k hk hbv b m c hrv W ⟨fs', T, h1, h2, h3, h4, h5, h6, h7, h8, hki, h9⟩
      have hr2 := (h2.at_ i).row r
      have hi' : i < fs'.length := by rw [← h2.len]; exact hi
      have hk' : k < (rowF (fs'.getD i default) r).length := by rw [← hr2.len]; exact hk
      have hbv' : ((rowF (fs'.getD i default) r).getD k default).ref = true := by rw [← hr2.ref_at k]; exact hbv
      obtain ⟨P, Q, hP, hU, hPl⟩ := roots_upd fs' i r k (ns.getD (baseF fs i r + refN ((rowF (fs.getD i default) r).take k)) 0) hi' hr hk' hbv'
      have hal' := updF_alike fs' i r k (ns.getD (baseF fs i r + refN ((rowF (fs.getD i default) r).take k)) 0) hi' hk' hbv'
      have hset := fun x => h1.frs.setN x hi' hr hk' hbv' hrv
      have hj : baseF fs i r + refN ((rowF (fs.getD i default) r).take k) = P.length := by rw [hPl, ← baseF_alike h2, hr2.refN_take k]
      rw [hj] at h3 h4 hU hal' ⊢
      obtain ⟨cur, hnum, hsbb, hcur⟩ : ∃ cur, W.cell? ⟨b, k * 2 + 1, none⟩ = some (.int .i64 ((rowF (fs'.getD i default) r).getD k default).n) ∧ sb < b ∧ W.heap[b]? = some (.cells cur 44) := by
        obtain ⟨a1, a2, cur, a3⟩ := h1.num hi' hr hk' hrv
        exact ⟨cur, a1, a2, a3⟩
      have hlt : P.length < ns.length := by
        have e1 := congrArg List.length (hP.symm.trans h3)
        have e2 := HLN.out
        simp only [List.length_append, List.length_cons, List.length_take, List.length_drop] at e1
        omega
      obtain ⟨e1, e2⟩ := List.append_inj (hP.symm.trans h3) (by rw [List.length_take]; omega)
      have e3 : Q = (rootsL fs).drop (P.length + 1) := by
        have h := congrArg (List.drop 1) e2
        rw [List.drop_drop] at h
        simpa using h
      obtain ⟨e4, e5⟩ := sints_nth _ _ _ _ _ h6 P.length hlt
      subst e4
      have l0 : W.cell? ⟨w.heap.size, 0, none⟩ = some (.slice (some ⟨nb, 0, none⟩) ns.length nc) := by rw [cell_of h5]; rfl
      refine (setr3_any w.heap.size jb nb b (k * 2) ns.length nc P.length cur _ _ W l0 h4 hlt (by omega) e5 hcur hnum).mono ?_
      rintro e W' ⟨rfl, rfl⟩
      have ht : ns.take (P.length + 1) = P ++ [ns.getD P.length 0] := by
        rw [List.take_succ_eq_append_getElem hlt, ← e1, List.getD_eq_getElem?_getD, List.getElem?_eq_getElem hlt]
        rfl
      generalize ns.getD P.length 0 = x at *
      have hs1 : Upd [b] W (W.setCell ⟨b, k * 2 + 1, none⟩ (.int .i64 x)) := (Upd.refl [b] W).setCell (.inl (by simp)) _
      have hjb : jb ≠ b := heap_ne h4 hcur (by decide)
      have hlb : w.heap.size ≠ b := heap_ne h5 hcur (by decide)
      have hj1 := hs1.heap h4 (by simpa using hjb)
      have hl1 := hs1.heap h5 (by simpa using hlb)
      have hfr1 := hset x
      have hat := h1.at_
      have hw0 : w.heap.size ≤ jb := by have := HZ2.out; omega
      generalize W.setCell ⟨b, k * 2 + 1, none⟩ (.int .i64 x) = W1 at hs1 hj1 hl1 hfr1 ⊢
      have hs2 : Upd [jb] W1 (W1.setCell ⟨jb, 0, none⟩ (.int .i64 ((P.length + 1 : Nat) : Int))) := (Upd.refl [jb] W1).setCell (.inl (by simp)) _
      have hj2 : (W1.setCell ⟨jb, 0, none⟩ (.int .i64 ((P.length + 1 : Nat) : Int))).heap[jb]? = some (.cells #[.int .i64 ((P.length + 1 : Nat) : Int)] 3) := by rw [heap_setCell hj1]; rfl
      generalize W1.setCell ⟨jb, 0, none⟩ (.int .i64 ((P.length + 1 : Nat) : Int)) = W2 at hs2 hj2 ⊢
      have hljb : w.heap.size ≠ jb := heap_ne hl1 hj1 (by decide)
      have hu : Upd (b :: jb :: T) w W2 := ((h9.mono (fun q hq _ => by simp [hq])).trans (hs1.mono (fun q hq _ => by rw [List.mem_singleton] at hq; simp [hq]))).trans (hs2.mono (fun q hq _ => by rw [List.mem_singleton] at hq; simp [hq]))
      have hbn : ns = [] ∨ nb ∉ [b] := h7.elim .inl (fun ⟨c3, h⟩ => .inr (by rw [List.mem_singleton]; exact heap_ne h hcur (by decide)))
      refine ⟨rfl, ⟨updF fs' i r k x, b :: jb :: T, ⟨hs2.heap (hs1.heap h1.box (by simp; omega)) (by simp; omega), hfr1.offT hj1 (by decide) (by decide) hs2, (h1.info.keep hs1 (fun q hq => by rw [List.mem_singleton] at hq; omega)).keep hs2 (fun q hq => by rw [List.mem_singleton] at hq; omega), h1.meths, hat⟩, h2.trans hal', ?_, hj2, hs2.heap hl1 (by simpa using hljb), ?_, ?_, ?_, ?_, hu⟩, ?_⟩
      · rw [hU, e3, ht]
        simp
      · have hbj : ns = [] ∨ nb ∉ [jb] := hb.elim .inl (fun ⟨c3, h⟩ => .inr (by have := lt_of_heap h; simp; omega))
        exact (h6.upd hs1 hbn).upd hs2 hbj
      · rcases hb with h | ⟨c3, h⟩
        · exact .inl h
        · rcases h7 with h' | ⟨c4, h'⟩
          · exact .inl h'
          · have hlt2 := lt_of_heap h
            exact .inr ⟨c4, hs2.heap (hs1.heap h' (by simpa using heap_ne h' hcur (by decide))) (by simp; omega)⟩
      · intro q hq
        simp only [List.mem_cons] at hq
        rcases hq with rfl | rfl | hq
        · refine ⟨hsbb, .inr ⟨i, hi, ?_⟩⟩
          have hr01 : r = 0 ∨ r = 1 := by omega
          rcases hr01 with rfl | rfl
          · refine .inl ?_
            have hrv0 : (vs.getD i default).lv = .slice (some ⟨q, 0, none⟩) m c := hrv
            rw [hrv0]; rfl
          · refine .inr ?_
            have hrv0 : (vs.getD i default).sv = .slice (some ⟨q, 0, none⟩) m c := hrv
            rw [hrv0]; rfl
        · exact ⟨by omega, .inl hw0⟩
        · exact h8 q hq
      · intro q cur2 hq
        have h10 := hki q cur2 hq
        have hlt3 := lt_of_heap hq
        exact hs2.heap (hs1.heap h10 (by simpa using heap_ne h10 hcur (by decide))) (by simp; omega)
      · intro q o hq
        have hqb : q ≠ b := heap_ne hq hcur (by decide)
        have h10 := hs1.heap hq (by simpa using hqb)
        exact hs2.heap h10 (by simpa using heap_ne h10 hj1 (by decide))
    · exact ⟨fs, [], H.out.same HU3.out, AlikeL.refl _, by simp, HJ3.out, HL3.out, HV.out.upd HU3.out (.inr (by simp)), hb.elim .inl (fun ⟨cur, h⟩ => .inr ⟨cur, HU3.out.heap h (by simp)⟩), by simp, fun q cur hq => HU3.out.heap hq (by simp), HU3.out⟩
  go_wp2_with fail
  refine HE3.out.mono ?_
  rintro e w4 ⟨rfl, fs', T, h1, h2, h3, _, _, _, _, h8, hki, h9⟩
  have HR : Hid ((∃ fs', StkAt W0 w4 sb ib p ss n0 n cv mv limit words lv fs' vs ∧ AlikeL fs fs' ∧ rootsL fs' = ns) ∧ (∀ (q : Nat) (cur : Array Value), w.heap[q]? = some (Obj.cells cur 3) → w4.heap[q]? = some (Obj.cells cur 3)) ∧ ∃ T, (∀ t ∈ T, sb < t ∧ (w.heap.size ≤ t ∨ ∃ i, i < fs.length ∧ (vs.getD i default).has t)) ∧ Upd T w w4) := by
    refine ⟨⟨fs', h1, h2, ?_⟩, hki, T, h8, h9⟩
    rw [h3, HCT.out, ← HLN.out, List.take_length, HLN.out, List.drop_length, List.append_nil]
  clear h1 h2 h3 h8 h9 hki HE3
  go_wp2_with fail
  go_ret
  exact ⟨rfl, HR.out⟩
theorem ssetroots_any (W0 w : World) (sb ib : Nat) (p : Prg) (ss : List Lk) (n0 n : Int) (cv mv : Value) (limit words : Int) (lv : Value) (fs : List Fr) (vs : List FrV) (nv : Value) (nb : Nat) (ns : List Int) (h : StkAt W0 w sb ib p ss n0 n cv mv limit words lv fs vs) (hn : fs.length ≤ 100000) (hsz : ∀ i, i < fs.length → ∀ r, r < 2 → (rowF (fs.getD i default) r).length ≤ 1000)
    (hv : IntsV w nv nb ns) (hb : ns = [] ∨ ∃ cur, w.heap[nb]? = some (.cells cur 3)) (hl : ns.length = (rootsL fs).length) (hl2 : ns.length ≤ 10000000) (hx : ∀ x ∈ ns, 0 ≤ x) :
    Calls Tryz.prog 20 #[.pointer (some ⟨sb, 0, none⟩), nv] w fun e w' => e = .returned (.bool true) ∧ (∃ fs', StkAt W0 w' sb ib p ss n0 n cv mv limit words lv fs' vs ∧ AlikeL fs fs' ∧ rootsL fs' = ns) ∧ (∀ (q : Nat) (cur : Array Value), w.heap[q]? = some (Obj.cells cur 3) → w'.heap[q]? = some (Obj.cells cur 3)) ∧ ∃ T, (∀ t ∈ T, sb < t) ∧ Upd T w w' :=
  (ssetroots_own W0 w sb ib p ss n0 n cv mv limit words lv fs vs nv nb ns h hn hsz hv hb hl hl2 hx).mono fun _ _ ⟨h1, h2, h3, T, h4, h5⟩ => ⟨h1, h2, h3, T, fun t ht => (h4 t ht).1, h5⟩
end Go.Proofs.YtopojeanbpokaaaGreatDoor
