/- ModelArrays: the law. -/
import Derived.Test.YtojobkhidlfeoaaDoorMdF
import Derived.Test.YtojobkhidlfeoaaDoorMwX
import Derived.Test.YtojobkhidlfeoaaDoorFirst9
import Derived.Test.YtojobkhidlfeoaaDoorSoW
import Derived.Test.YtojobkhidlfeoaaDoorOwnX
namespace Go.Proofs.YtojobkhidlfeoaaDoor
open Go.RowKit

theorem tmod25 (a : Int) : IntKind.i64.wrap (a.tmod 25 + 25) = a.tmod 25 + 25 ∧ (a.tmod 25 + 25).tmod 25 = a % 25 := by
 have h1 := Int.tmod_lt_of_pos a (show (0 : Int) < 25 by omega)
 have h2 := Int.lt_tmod_of_pos a (show (0 : Int) < 25 by omega)
 refine ⟨IntWalk.i64_in _ (by omega), ?_⟩
 rw [Int.tmod_eq_emod_of_nonneg (by omega)]
 have h := Int.tmod_def a 25
 rw [h, show a - 25 * a.tdiv 25 + 25 = a + 25 * (1 - a.tdiv 25) by rw [Int.mul_sub, Int.mul_one]; omega, Int.add_mul_emod_self_left]
/-- The i-th set. -/
def sAt (xs ys : List Int) (i : Nat) : Int × Int := (xs.getD i 0 % 25 - 2, ys.getD i 0)
def setsOf (xs ys : List Int) (i : Nat) : List (Int × Int) := (List.range i).map (sAt xs ys)
theorem setsOf_len (xs ys : List Int) (i : Nat) : (setsOf xs ys i).length = i := by simp [setsOf]
theorem setsOf_succ (xs ys : List Int) (i : Nat) : setsOf xs ys (i + 1) = setsOf xs ys i ++ [sAt xs ys i] := by
 unfold setsOf
 rw [List.range_succ, List.map_append]
 rfl
theorem setsOf_get (xs ys : List Int) {i q : Nat} (h : q < i) : (setsOf xs ys i).getD q default = sAt xs ys q := by
 unfold setsOf
 rw [List.getD_eq_getElem?_getD, List.getElem?_map, List.getElem?_range h]
 rfl
def preC (n : Nat) (xs ys : List Int) (i : Nat) : List Ins := [⟨1, 0, 0, n⟩, ⟨28, 0, 0, 0⟩, ⟨4, 0, 0, 0⟩] ++ (setsOf xs ys i).flatMap setB
theorem preC_len (n : Nat) (xs ys : List Int) (i : Nat) : (preC n xs ys i).length = 3 + 4 * i := by
 unfold preC
 rw [List.length_append, setB_len, setsOf_len]
 rfl
theorem preC_succ (n : Nat) (xs ys : List Int) (i : Nat) : preC n xs ys (i + 1) = preC n xs ys i ++ setB (sAt xs ys i) := by
 unfold preC
 rw [setsOf_succ, List.flatMap_append, ← List.append_assoc]
 congr 1
def codeQ (n : Nat) (xs ys : List Int) (L q : Nat) : List Ins := preC n xs ys L ++ (List.range q).flatMap outB
theorem codeQ_len (n : Nat) (xs ys : List Int) (L q : Nat) : (codeQ n xs ys L q).length = 3 + 4 * L + 4 * q := by
 unfold codeQ
 rw [List.length_append, preC_len, outB_len]
theorem codeQ_succ (n : Nat) (xs ys : List Int) (L q : Nat) : codeQ n xs ys L (q + 1) = codeQ n xs ys L q ++ outB q := by
 unfold codeQ
 rw [List.range_succ, List.flatMap_append, ← List.append_assoc]
 congr 1
theorem codeQ_all (n : Nat) (xs ys : List Int) (L q : Nat) : codeQ n xs ys L q ++ [⟨3, 0, 0, 0⟩, ⟨31, 0, 0, 0⟩, ⟨33, 0, 0, 0⟩] = arrC n (setsOf xs ys L) q ++ [⟨33, 0, 0, 0⟩] := by
 unfold codeQ preC arrC
 simp
/-- What stands when i sets are read. -/
def ArS (n : Nat) (xs ys : List Int) (i : Nat) (bad : Int) (W : List Int) : Prop :=
 W.length = n ∧ ((bad = -1 ∧ (∀ q, q < i → inB n (sAt xs ys q)) ∧ W = arrW n (setsOf xs ys i)) ∨ ∃ j : Nat, j < i ∧ bad = 3 + 4 * (j : Int) + 3 ∧ (∀ q, q < j → inB n (sAt xs ys q)) ∧ ¬ inB n (sAt xs ys j))
theorem ArS.start (n : Nat) (xs ys : List Int) : ArS n xs ys 0 (-1) (List.replicate n 0) := ⟨by simp, .inl ⟨rfl, fun q h => by omega, rfl⟩⟩
theorem ArS.good {n : Nat} {xs ys : List Int} {i : Nat} {W : List Int} (h : ArS n xs ys i (-1) W) (hi : inB n (sAt xs ys i)) : ArS n xs ys (i + 1) (-1) (W.set (sAt xs ys i).1.toNat (sAt xs ys i).2) := by
 obtain ⟨h1, ⟨_, h2, h3⟩ | ⟨j, _, h2, _⟩⟩ := h
 ·refine ⟨by simpa using h1, .inl ⟨rfl, fun q hq => ?_, ?_⟩⟩
  ·by_cases e : q = i
   ·rw [e]; exact hi
   ·exact h2 q (by omega)
  ·rw [setsOf_succ, arrW_snoc, h3]
 ·omega
theorem ArS.bad {n : Nat} {xs ys : List Int} {i : Nat} {W : List Int} (h : ArS n xs ys i (-1) W) (hi : ¬ inB n (sAt xs ys i)) : ArS n xs ys (i + 1) (3 + 4 * (i : Int) + 3) W := by
 obtain ⟨h1, ⟨_, h2, h3⟩ | ⟨j, _, h2, _⟩⟩ := h
 ·exact ⟨h1, .inr ⟨i, by omega, rfl, h2, hi⟩⟩
 ·omega
theorem ArS.after {n : Nat} {xs ys : List Int} {i : Nat} {W : List Int} {bad : Int} (h : ArS n xs ys i bad W) (hb : 0 ≤ bad) : ArS n xs ys (i + 1) bad W := by
 obtain ⟨h1, ⟨h2, _⟩ | ⟨j, h2, h3⟩⟩ := h
 ·omega
 ·exact ⟨h1, .inr ⟨j, by omega, h3⟩⟩
theorem ArS.cases {n : Nat} {xs ys : List Int} {i : Nat} {W : List Int} {bad : Int} (h : ArS n xs ys i bad W) : bad = -1 ∨ 0 ≤ bad := by
 obtain ⟨_, ⟨h2, _⟩ | ⟨j, _, h2, _⟩⟩ := h
 ·exact .inl h2
 ·right; omega
theorem IntsAt.wide {w : World} {v : Value} {xs : List Int} (h : IntsAt w v xs) : IntsW w v xs := by
 obtain ⟨a, cap, rfl, _, _, _, h5⟩ := h
 refine ⟨a, cap, rfl, fun i hi => ?_⟩
 rcases h5 with h5 | ⟨b, o, h6, h7⟩
 ·rw [h5] at hi; simp at hi
 ·exact ⟨b, o, h6, h7 i hi⟩

set_option maxRecDepth 100000 in
set_option maxHeartbeats 8000000 in
theorem arrW_any (E : Nat → Addr) (n0 : Int) (av yv : Value) (xs ys : List Int) (w : World) (hS : SentAt w E) (hx : IntsAt w av xs) (hy : IntsAt w yv ys) :
  Calls Tryd.prog 4 #[.int .i64 n0, av, yv] w fun e w' => e = .returned (.bool true) ∧ Upd [] w w' := by
 obtain ⟨ti, hti, htz0, htz1, htz2⟩ := info_parts Tryd.infoInstr
 have HTI := Lib.hid hti
 have HTZ0 := Lib.hid htz0
 have HTZ1 := Lib.hid htz1
 have HTZ2 := Lib.hid htz2
 obtain ⟨li, hli, hlz0, hlz1, hlz2⟩ := info_parts Tryd.infoLong
 have hmk := fun W (m : Nat) (hm : m ≤ 1000) => run_make (P := Tryd.prog) W 22 2 li (.int .i64 0) Tryd.underlying22 hli hlz0 .i64 .i64 (m : Int) (m : Int) (by omega) (by omega) (by rw [hlz2]; omega) (by omega)
 rw [hlz1] at hmk
 simp only [Nat.mul_one, madeCells_zero, Int.toNat_natCast] at hmk
 clear hti htz0 htz1 htz2 hli hlz0 hlz1 hlz2
 have HF := Lib.hid (first9_any E w hS)
 have HS := Lib.hid hS
 have HXW := Lib.hid hx.wide
 have HYW := Lib.hid hy.wide
 have HX64 : Hid (∀ x ∈ xs, in64 x) := by obtain ⟨_, _, _, _, _, h, _⟩ := hx; exact h
 have HY64 : Hid (∀ x ∈ ys, in64 x) := by obtain ⟨_, _, _, _, _, h, _⟩ := hy; exact h
 obtain ⟨ap, ac, rfl, _⟩ := hx
 obtain ⟨yp, yc, rfl, _⟩ := hy
 have hm1 : -20 < n0.tmod 20 ∧ n0.tmod 20 < 20 := by
  have h1 := Int.tmod_lt_of_pos n0 (show (0 : Int) < 20 by omega)
  have h2 := Int.lt_tmod_of_pos n0 (show (0 : Int) < 20 by omega)
  omega
 have s1 : IntKind.i64.wrap (n0.tmod 20 + 20) = n0.tmod 20 + 20 := IntWalk.i64_in _ (by omega)
 obtain ⟨n, hn⟩ : ∃ n : Nat, (n0.tmod 20 + 20).tmod 20 = (n : Int) := by
  have := Int.tmod_nonneg 20 (show 0 ≤ n0.tmod 20 + 20 by omega)
  exact ⟨((n0.tmod 20 + 20).tmod 20).toNat, by omega⟩
 have hn2 : n < 20 := by
  have := Int.tmod_lt_of_pos (n0.tmod 20 + 20) (show (0 : Int) < 20 by omega)
  omega
 have HN2 := Lib.hid hn2
 clear hS hm1
 go_enter Tryd.func4, Tryd.ntmps4
 go_wp2_with fail
 refine HF.out.mono ?_
 rintro e w1 ⟨rfl, hu1⟩
 have HU1 := Lib.hid hu1
 clear hu1 HF
 by_cases hlx : xs.length ≤ 10
 case neg =>
  have d1 : decide ((xs.length : Int) > 10) = true := decide_eq_true (by omega)
  have d2 : decide (10 < xs.length) = true := decide_eq_true (by omega)
  clear s1 hn hmk
  go_wp2_with fail
  go_ret
  exact ⟨rfl, HU1.out⟩
 by_cases hly : ys.length ≤ 10
 case neg =>
  have d1 : decide ((xs.length : Int) > 10) = false := decide_eq_false (by omega)
  have d2 : decide (10 < xs.length) = false := decide_eq_false (by omega)
  have d3 : decide ((ys.length : Int) > 10) = true := decide_eq_true (by omega)
  have d4 : decide (10 < ys.length) = true := decide_eq_true (by omega)
  clear s1 hn hmk
  go_wp2_with fail
  go_ret
  exact ⟨rfl, HU1.out⟩
 have d1 : decide ((xs.length : Int) > 10) = false := decide_eq_false (by omega)
 have d2 : decide (10 < xs.length) = false := decide_eq_false (by omega)
 have d3 : decide ((ys.length : Int) > 10) = false := decide_eq_false (by omega)
 have d4 : decide (10 < ys.length) = false := decide_eq_false (by omega)
 have HLX := Lib.hid hlx
 have HLY := Lib.hid hly
 have hmk2 := hmk (w1.alloc (.cells #[.int .i64 1, .int .i64 0, .int .i64 0, .int .i64 n, .int .i64 28, .int .i64 0, .int .i64 0, .int .i64 0, .int .i64 4, .int .i64 0, .int .i64 0, .int .i64 0] 29)) n (by omega)
 have hsz0 := HU1.out.size
 have hX1 := OwnX.lit w1 w.heap.size [⟨1, 0, 0, n⟩, ⟨28, 0, 0, 0⟩, ⟨4, 0, 0, 0⟩] hsz0 (by simp)
 have hX1 : OwnX (w1.alloc (.cells #[.int .i64 1, .int .i64 0, .int .i64 0, .int .i64 n, .int .i64 28, .int .i64 0, .int .i64 0, .int .i64 0, .int .i64 4, .int .i64 0, .int .i64 0, .int .i64 0] 29)) w.heap.size (.slice (some ⟨w1.heap.size, 0, none⟩) 3 3) (preC n xs ys 0) := hX1
 have hua := (Upd.refl [] w1).alloc (.cells #[.int .i64 1, .int .i64 0, .int .i64 0, .int .i64 n, .int .i64 28, .int .i64 0, .int .i64 0, .int .i64 0, .int .i64 4, .int .i64 0, .int .i64 0, .int .i64 0] 29)
 have hub := (Upd.refl [] (w1.alloc (.cells #[.int .i64 1, .int .i64 0, .int .i64 0, .int .i64 n, .int .i64 28, .int .i64 0, .int .i64 0, .int .i64 0, .int .i64 4, .int .i64 0, .int .i64 0, .int .i64 0] 29))).alloc (.cells (icells (List.replicate n 0)) 2)
 have hB := heap_alloc_new (w1.alloc (.cells #[.int .i64 1, .int .i64 0, .int .i64 0, .int .i64 n, .int .i64 28, .int .i64 0, .int .i64 0, .int .i64 0, .int .i64 4, .int .i64 0, .int .i64 0, .int .i64 0] 29)) (.cells (icells (List.replicate n 0)) 2)
 have hz2 : (w1.alloc (.cells #[.int .i64 1, .int .i64 0, .int .i64 0, .int .i64 n, .int .i64 28, .int .i64 0, .int .i64 0, .int .i64 0, .int .i64 4, .int .i64 0, .int .i64 0, .int .i64 0] 29)).heap.size = w1.heap.size + 1 := by simp
 rw [hz2] at hB hmk2
 have HX2 := Lib.hid (hX1.upd hub)
 have HB2 := Lib.hid hB
 have HU2 := Lib.hid ((HU1.out.trans hua).trans hub)
 clear hX1 hua hub hB hz2 hmk hlx hly
 go_upto_region 7 with fail
 generalize (w1.alloc (.cells #[.int .i64 1, .int .i64 0, .int .i64 0, .int .i64 n, .int .i64 28, .int .i64 0, .int .i64 0, .int .i64 0, .int .i64 4, .int .i64 0, .int .i64 0, .int .i64 0] 29)).alloc (.cells (icells (List.replicate n 0)) 2) = w2 at HX2 HB2 HU2 ⊢
 obtain ⟨wb, hwb⟩ : ∃ wb, w1.heap.size + 1 = wb := ⟨_, rfl⟩
 rw [hwb] at HB2 ⊢
 have HWB : Hid (w.heap.size ≤ wb) := by
  show _ ≤ _
  omega
 clear hwb hsz0 s1 hn hmk2
 obtain ⟨L, hL⟩ : ∃ L, min xs.length ys.length = L := ⟨_, rfl⟩
 have HL := Lib.hid hL
 have hL10 : L ≤ 10 := by have := HLX.out; omega
 clear hL d1 d2 d3 d4
 go_wp2_with fail
 go_loopw [8, 10, 11] (fun c b iv wr => ∃ (i : Nat) (W : List Int) (bad : Int), i ≤ L ∧ iv = .int .i64 i ∧ b = .int .i64 bad ∧ Hid (OwnX wr w.heap.size c (preC n xs ys i)) ∧ Hid (wr.heap[wb]? = some (.cells (icells W) 2)) ∧ Hid (ArS n xs ys i bad W) ∧ Hid (Upd [] w wr)) (fun _ _ iv _ => L - (intOf iv).toNat)
 case atStart => exact ⟨0, _, -1, by omega, rfl, rfl, HX2, HB2, Lib.hid (ArS.start n xs ys), HU2⟩
 case round =>
  obtain ⟨i, W, bad, hi, rfl, rfl, HX, HB, HA, HU⟩ := hrel
  obtain ⟨wo, rfl⟩ : ∃ wo : World, wo = wr := ⟨_, rfl⟩
  have hli := preC_len n xs ys i
  obtain ⟨vp, vc, hv⟩ := HX.out.shape
  obtain ⟨P, hP⟩ : ∃ P, 3 + 4 * i = P := ⟨_, rfl⟩
  rw [hli, hP] at hv
  subst hv
  have HLI := Lib.hid hli
  have HP := Lib.hid hP
  clear hli hP
  by_cases hlt : i < L
  ·have hL2 := HL.out
   obtain ⟨xb, xo, hape, hxc⟩ := HXW.out.nth i (by omega)
   obtain ⟨yb, yo, hype, hyc⟩ := HYW.out.nth i (by omega)
   subst hape hype
   have hx64 : in64 (ys.getD i 0) := HY64.out _ (by rw [List.getD_eq_getElem?_getD, List.getElem?_eq_getElem (by omega)]; exact List.getElem_mem _)
   have i1 : (0 : Int) ≤ (i : Int) := by omega
   have i2 : (i : Int) < (xs.length : Int) := by omega
   have i3 : (i : Int) < (ys.length : Int) := by omega
   have d1 : decide ((i : Int) < (xs.length : Int)) = true := decide_eq_true i2
   have d2 : decide (i < xs.length) = true := decide_eq_true (by omega)
   have d3 : decide ((i : Int) < (ys.length : Int)) = true := decide_eq_true i3
   have d4 : decide (i < ys.length) = true := decide_eq_true (by omega)
   obtain ⟨s1, s2⟩ := tmod25 (xs.getD i 0)
   obtain ⟨r, hr⟩ : ∃ r, xs.getD i 0 % 25 = r := ⟨_, rfl⟩
   obtain ⟨kv, hkv⟩ : ∃ kv, r - 2 = kv := ⟨_, rfl⟩
   have hr2 : 0 ≤ r ∧ r < 25 := by rw [← hr]; omega
   have hsa : sAt xs ys i = (kv, ys.getD i 0) := by unfold sAt; rw [hr, hkv]
   rw [hr] at s2
   have hkv2 : -2 ≤ kv ∧ kv < 23 := by omega
   have s3 : IntKind.i64.wrap (r - 2) = kv := by rw [← hkv]; exact IntWalk.i64_in _ (by omega)
   have hxc1 := HU.out.cell hxc (by simp)
   have hyc1 := HU.out.cell hyc (by simp)
   have HYC := Lib.hid hyc
   generalize xs.getD i 0 = x at hxc1 s1 s2
   obtain ⟨y, hy0⟩ : ∃ y, ys.getD i 0 = y := ⟨_, rfl⟩
   rw [hy0] at hyc1 hsa hx64 HYC
   have HSA := Lib.hid hsa
   have HKV := Lib.hid hkv2
   have HY := Lib.hid hx64
   clear hL2 hxc hyc hr hkv hr2 hsa hkv2 hy0 hx64
   have hyc2 := ((Upd.refl [] wo).alloc (.cells #[.int .i64 3, .int .i64 0, .int .i64 0, .int .i64 0, .int .i64 1, .int .i64 0, .int .i64 0, .int .i64 kv, .int .i64 1, .int .i64 0, .int .i64 0, .int .i64 y, .int .i64 30, .int .i64 0, .int .i64 0, .int .i64 0] 29)).cell hyc1 (by simp)
   go_wp2_with (at_builtin; refine stop_here ?_)
   refine Hid.mk ?_
   have hrow : (wo.alloc (.cells (xcells [⟨3, 0, 0, 0⟩, ⟨1, 0, 0, kv⟩, ⟨1, 0, 0, y⟩, ⟨30, 0, 0, 0⟩]).toArray 29)).ownsRow w.heap.size 29 4 (.slice vp P vc) P (xcells (preC n xs ys i)) := by
    have h := HX.out.upd ((Upd.refl [] wo).alloc (.cells (xcells [⟨3, 0, 0, 0⟩, ⟨1, 0, 0, kv⟩, ⟨1, 0, 0, y⟩, ⟨30, 0, 0, 0⟩]).toArray 29))
    unfold OwnX at h
    rwa [HLI.out, HP.out] at h
   have hsz := HU.out.size
   have hP100 : P ≤ 100 := by have := HP.out; omega
   refine (wpList_append_src rfl _ _ 30 rfl w.heap.size 29 ti _ 4 32 Tryd.underlying30 HTI.out HTZ0.out HTZ1.out HTZ2.out rfl (by decide) _ _ _ rfl hrow _ 4 (xcells [⟨3, 0, 0, 0⟩, ⟨1, 0, 0, kv⟩, ⟨1, 0, 0, y⟩, ⟨30, 0, 0, 0⟩]) rfl (.inr ⟨_, _, rfl, fun j u hu => by
    rw [Addr.add_lit, Nat.zero_add, cell_of (heap_alloc_new wo _)]
    show ((xcells [⟨3, 0, 0, 0⟩, ⟨1, 0, 0, kv⟩, ⟨1, 0, 0, y⟩, ⟨30, 0, 0, 0⟩]).toArray)[j]? = some u
    rw [List.getElem?_toArray]
    exact hu⟩) rfl (xcells_one _) (by unfold maxLen; omega) (by omega) (by simp; omega) ?_)
   intro v' w7 hown hgr _
   obtain ⟨hPu, hW, hBl⟩ := HX.out.push (ys := [⟨3, 0, 0, 0⟩, ⟨1, 0, 0, kv⟩, ⟨1, 0, 0, y⟩, ⟨30, 0, 0, 0⟩]) (by rw [HLI.out, HP.out]; rfl) hown hgr
   have hPu : OwnX w7 w.heap.size v' (preC n xs ys (i + 1)) := by
    rw [preC_succ, HSA.out]
    exact hPu
   have HX7 := Lib.hid hPu
   have HU7 := Lib.hid (HU.out.trans' hW (fun q hq hl => by have := (hBl q hq).1; omega))
   have HB7 : Hid (w7.heap[wb]? = some (.cells (icells W) 2)) := hW.heap HB.out (fun hm => own_heap_ne HX.out HB.out (by decide) (Option.mem_toList.1 hm))
   obtain ⟨vp', vc', hv'⟩ := hPu.shape
   obtain ⟨P2, hP2⟩ : ∃ P2, 3 + 4 * (i + 1) = P2 := ⟨_, rfl⟩
   rw [preC_len, hP2] at hv'
   subst hv'
   have HP2 := Lib.hid hP2
   clear hPu hW hBl hown hgr hrow hsz hP100 hP2 hxc1 hyc1 hyc2 s1 s2 s3 d1 d2 d3 d4
   have hi1 : i + 1 ≤ L := by omega
   have hc : ((P2 : Int) - 1) = 3 + 4 * (i : Int) + 3 := by have := HP2.out; omega
   have s4 : IntKind.i64.wrap ((P2 : Int) - 1) = 3 + 4 * (i : Int) + 3 := by rw [hc]; exact IntWalk.i64_in _ (by omega)
   clear hc
   by_cases hin : 0 ≤ kv ∧ kv < (n : Int)
   ·have hin2 : inB n (sAt xs ys i) := by rw [HSA.out]; exact hin
    obtain ⟨kn, rfl⟩ : ∃ kn : Nat, kv = (kn : Int) := ⟨kv.toNat, by omega⟩
    have e1 : decide ((kn : Int) < 0) = false := decide_eq_false (by omega)
    have e2 : decide ((n : Int) ≤ (kn : Int)) = false := decide_eq_false (by omega)
    have e3 : decide (n ≤ kn) = false := decide_eq_false (by omega)
    have e4 : decide ((kn : Int) ≥ (n : Int)) = false := decide_eq_false (by omega)
    rcases HA.out.cases with hb | hb
    ·subst hb
     have HA7 : Hid (ArS n xs ys (i + 1) (-1) (W.set kn y)) := by
      have h := HA.out.good hin2
      rw [HSA.out] at h
      exact h
     have hyc7 := HU7.out.cell HYC.out (by simp)
     have hkW : kn < W.length := by rw [HA.out.1]; omega
     have hw7 : w7.cell? ⟨wb, kn, none⟩ = some (.int .i64 (W.getD kn 0)) := by rw [cell_of HB7.out]; exact icells_get W kn hkW
     have z7 := froz_of HB7.out kn
     have j1 : (0 : Int) ≤ (kn : Int) := by omega
     have j2 : (kn : Int) < (n : Int) := hin.2
     have j3 : kn < n := by omega
     have hu8 : Upd [wb] w7 (w7.setCell ⟨wb, kn, none⟩ (.int .i64 y)) := (Upd.refl _ w7).setCell (.inl (by simp)) _
     have HB8 : Hid ((w7.setCell ⟨wb, kn, none⟩ (.int .i64 y)).heap[wb]? = some (.cells (icells (W.set kn y)) 2)) := by
      show _ = _
      rw [heap_setCell HB7.out, icells_set]
     have HX8 : Hid (OwnX (w7.setCell ⟨wb, kn, none⟩ (.int .i64 y)) w.heap.size (.slice vp' P2 vc') (preC n xs ys (i + 1))) := row_upd HX7.out hu8 (fun q hq hm => by
      rw [List.mem_singleton] at hm
      subst hm
      exact own_heap_ne HX7.out HB7.out (by decide) hq)
     have HU8 := Lib.hid (HU7.out.trans' hu8 (fun q hq hl => by rw [List.mem_singleton] at hq; have := HWB.out; omega))
     clear hu8 hin hin2 hkW s4
     go_wp2_with fail
     go_roundw
     case rel => exact ⟨i + 1, _, -1, hi1, by go_num, rfl, HX8, HB8, HA7, HU8⟩
     case measure => simp [intOf]; omega
    ·have HA7 := Lib.hid (HA.out.after hb)
     have e5 : decide (bad < 0) = false := decide_eq_false (by omega)
     clear hin hin2 s4 hb
     go_wp2_with fail
     go_roundw
     case rel => exact ⟨i + 1, _, bad, hi1, by go_num, rfl, HX7, HB7, HA7, HU7⟩
     case measure => simp [intOf]; omega
   ·have hin2 : ¬ inB n (sAt xs ys i) := by rw [HSA.out]; exact hin
    have HA7 : Hid ((bad = -1 → ArS n xs ys (i + 1) (3 + 4 * (i : Int) + 3) W) ∧ (0 ≤ bad → ArS n xs ys (i + 1) bad W)) := ⟨fun h => (h ▸ HA.out).bad hin2, fun h => HA.out.after h⟩
    by_cases hk0 : kv < 0
    ·have e1 : decide (kv < 0) = true := decide_eq_true hk0
     rcases HA.out.cases with hb | hb
     ·subst hb
      have HA8 := Lib.hid (HA7.out.1 rfl)
      clear hin hin2 hk0
      go_wp2_with fail
      go_roundw
      case rel => exact ⟨i + 1, _, _, hi1, by go_num, rfl, HX7, HB7, HA8, HU7⟩
      case measure => simp [intOf]; omega
     ·have HA8 := Lib.hid (HA7.out.2 hb)
      have e5 : decide (bad < 0) = false := decide_eq_false (by omega)
      clear hin hin2 hk0 hb
      go_wp2_with fail
      go_roundw
      case rel => exact ⟨i + 1, _, bad, hi1, by go_num, rfl, HX7, HB7, HA8, HU7⟩
      case measure => simp [intOf]; omega
    ·have e1 : decide (kv < 0) = false := decide_eq_false hk0
     have e2 : decide ((n : Int) ≤ kv) = true := decide_eq_true (by omega)
     have e3 : decide (kv ≥ (n : Int)) = true := decide_eq_true (by omega)
     rcases HA.out.cases with hb | hb
     ·subst hb
      have HA8 := Lib.hid (HA7.out.1 rfl)
      clear hin hin2 hk0
      go_wp2_with fail
      go_roundw
      case rel => exact ⟨i + 1, _, _, hi1, by go_num, rfl, HX7, HB7, HA8, HU7⟩
      case measure => simp [intOf]; omega
     ·have HA8 := Lib.hid (HA7.out.2 hb)
      have e5 : decide (bad < 0) = false := decide_eq_false (by omega)
      clear hin hin2 hk0 hb
      go_wp2_with fail
      go_roundw
      case rel => exact ⟨i + 1, _, bad, hi1, by go_num, rfl, HX7, HB7, HA8, HU7⟩
      case measure => simp [intOf]; omega
  ·obtain rfl : i = L := by omega
   have hL2 := HL.out
   have HXL := HX
   have HAL := HA
   have d1 : decide ((i : Int) < (xs.length : Int)) = decide (i < xs.length) := by
    by_cases h : i < xs.length
    ·rw [decide_eq_true h, decide_eq_true (by omega)]
    ·rw [decide_eq_false h, decide_eq_false (by omega)]
   have hP43 : P ≤ 43 := by have := HP.out; omega
   have HQ0 : Hid (OwnX wo w.heap.size (.slice vp P vc) (codeQ n xs ys i 0)) := by
    have h : codeQ n xs ys i 0 = preC n xs ys i := by unfold codeQ; simp
    rw [h]
    exact HX
   have HHW : Hid (∃ c1 c2 : Bool, decide ((i : Int) < (xs.length : Int)) = c1 ∧ decide ((i : Int) < (ys.length : Int)) = c2 ∧ (c1 && c2) = false) := by
    refine Lib.hid ⟨_, _, rfl, rfl, ?_⟩
    rw [Bool.and_eq_false_iff]
    by_cases h : i < xs.length
    ·right; exact decide_eq_false (by omega)
    ·left; exact decide_eq_false (by omega)
   clear HX HA hL2 d1
   by_cases hix : i < xs.length
   case' pos =>
    have d1 : decide ((i : Int) < (xs.length : Int)) = true := decide_eq_true (by omega)
    have d2 : decide (i < xs.length) = true := decide_eq_true hix
    have d3 : decide ((i : Int) < (ys.length : Int)) = false := decide_eq_false (by have := HL.out; omega)
    have d4 : decide (i < ys.length) = false := decide_eq_false (by have := HL.out; omega)
    go_upto_region 18 with fail
    clear d1 d2 d3 d4
   case' neg =>
    have d1 : decide ((i : Int) < (xs.length : Int)) = false := decide_eq_false (by omega)
    have d2 : decide (i < xs.length) = false := decide_eq_false hix
    go_upto_region 18 with fail
    clear d1 d2
   all_goals
    clear HHW hix
    go_wp2_with fail
    go_loopw [8, 13] (fun c iv wr => ∃ q : Nat, q ≤ n ∧ 3 + 4 * i + 4 * q ≤ 103 ∧ iv = .int .i64 q ∧ Hid (OwnX wr w.heap.size c (codeQ n xs ys i q)) ∧ Hid (wr.heap[wb]? = some (.cells (icells W) 2)) ∧ Hid (Upd [] w wr)) (fun _ iv _ => n - (intOf iv).toNat)
    case atStart => exact ⟨0, by omega, by omega, rfl, HQ0, HB, HU⟩
    case round =>
     clear HQ0 HB HU
     obtain ⟨q, hq, hq103, rfl, HX, HB, HU⟩ := hrel
     obtain ⟨wp, rfl⟩ : ∃ wp : World, wp = wr := ⟨_, rfl⟩
     have hli := codeQ_len n xs ys i q
     obtain ⟨vp2, vc2, hv⟩ := HX.out.shape
     obtain ⟨P3, hP3⟩ : ∃ P3, 3 + 4 * i + 4 * q = P3 := ⟨_, rfl⟩
     rw [hli, hP3] at hv
     subst hv
     have HLI3 := Lib.hid hli
     have HP3 := Lib.hid hP3
     have HQ103 := Lib.hid hq103
     clear hli hP3
     by_cases hlq : q < n ∧ P3 < 100
     ·have d1 : decide ((q : Int) < (n : Int)) = true := decide_eq_true (by omega)
      have d2 : decide (q < n) = true := decide_eq_true hlq.1
      have d3 : decide ((P3 : Int) < 100) = true := decide_eq_true (by omega)
      have d4 : decide (P3 < 100) = true := decide_eq_true hlq.2
      go_wp2_with (at_builtin; refine stop_here ?_)
      refine Hid.mk ?_
      have hrow : (wp.alloc (.cells (xcells [⟨3, 0, 0, 0⟩, ⟨1, 0, 0, q⟩, ⟨29, 0, 0, 0⟩, ⟨35, 0, 0, 0⟩]).toArray 29)).ownsRow w.heap.size 29 4 (.slice vp2 P3 vc2) P3 (xcells (codeQ n xs ys i q)) := by
       have h := HX.out.upd ((Upd.refl [] wp).alloc (.cells (xcells [⟨3, 0, 0, 0⟩, ⟨1, 0, 0, q⟩, ⟨29, 0, 0, 0⟩, ⟨35, 0, 0, 0⟩]).toArray 29))
       unfold OwnX at h
       rwa [HLI3.out, HP3.out] at h
      have hsz := HU.out.size
      refine (wpList_append_src rfl _ _ 30 rfl w.heap.size 29 ti _ 4 32 Tryd.underlying30 HTI.out HTZ0.out HTZ1.out HTZ2.out rfl (by decide) _ _ _ rfl hrow _ 4 (xcells [⟨3, 0, 0, 0⟩, ⟨1, 0, 0, q⟩, ⟨29, 0, 0, 0⟩, ⟨35, 0, 0, 0⟩]) rfl (.inr ⟨_, _, rfl, fun j u hu => by
       rw [Addr.add_lit, Nat.zero_add, cell_of (heap_alloc_new wp _)]
       show ((xcells [⟨3, 0, 0, 0⟩, ⟨1, 0, 0, q⟩, ⟨29, 0, 0, 0⟩, ⟨35, 0, 0, 0⟩]).toArray)[j]? = some u
       rw [List.getElem?_toArray]
       exact hu⟩) rfl (xcells_one _) (by unfold maxLen; omega) (by omega) (by simp; omega) ?_)
      intro v' w7 hown hgr _
      obtain ⟨hPu, hW, hBl⟩ := HX.out.push (ys := [⟨3, 0, 0, 0⟩, ⟨1, 0, 0, q⟩, ⟨29, 0, 0, 0⟩, ⟨35, 0, 0, 0⟩]) (by rw [HLI3.out, HP3.out]; rfl) hown hgr
      have hPu : OwnX w7 w.heap.size v' (codeQ n xs ys i (q + 1)) := by
       rw [codeQ_succ]
       exact hPu
      have HX7 := Lib.hid hPu
      have HU7 := Lib.hid (HU.out.trans' hW (fun q hq hl => by have := (hBl q hq).1; omega))
      have HB7 : Hid (w7.heap[wb]? = some (.cells (icells W) 2)) := hW.heap HB.out (fun hm => own_heap_ne HX.out HB.out (by decide) (Option.mem_toList.1 hm))
      obtain ⟨vp', vc', hv'⟩ := hPu.shape
      obtain ⟨P4, hP4⟩ : ∃ P4, 3 + 4 * i + 4 * (q + 1) = P4 := ⟨_, rfl⟩
      rw [codeQ_len, hP4] at hv'
      subst hv'
      have hq2 : q + 1 ≤ n := hlq.1
      have hq3 : 3 + 4 * i + 4 * (q + 1) ≤ 103 := by have := HP3.out; omega
      clear hPu hW hBl hown hgr hrow hsz hP4 d1 d2 d3 d4 hlq
      go_wp2_with fail
      go_roundw
      case rel => exact ⟨q + 1, hq2, hq3, by go_num, HX7, HB7, HU7⟩
      case measure => simp [intOf]; omega
     ·have hmin : min (xs.length : Int) (ys.length : Int) = (i : Int) := by have := HL.out; omega
      obtain ⟨a1, ha1⟩ : ∃ a1 : Int, (P3 : Int) - 3 = a1 := ⟨_, rfl⟩
      obtain ⟨a2, ha2⟩ : ∃ a2 : Int, 4 * (i : Int) = a2 := ⟨_, rfl⟩
      obtain ⟨a3, ha3⟩ : ∃ a3 : Int, a1 - a2 = a3 := ⟨_, rfl⟩
      have hP3 := HP3.out
      have ha4 : a3 = 4 * (q : Int) := by omega
      have s1 : IntKind.i64.wrap ((P3 : Int) - 3) = a1 := by rw [ha1]; exact IntWalk.i64_in _ (by omega)
      have s2 : IntKind.i64.wrap (4 * (i : Int)) = a2 := by rw [ha2]; exact IntWalk.i64_in _ (by omega)
      have s3 : IntKind.i64.wrap (a1 - a2) = a3 := by rw [ha3]; exact IntWalk.i64_in _ (by omega)
      have s4 : a3.tdiv 4 = (q : Int) := by
       rw [ha4, Int.tdiv_eq_ediv_of_nonneg (by omega)]
       omega
      have s5 : IntKind.i64.wrap (q : Int) = (q : Int) := IntWalk.i64_in _ (by omega)
      have s6 : IntKind.i64.wrap (a3.tdiv 4) = (q : Int) := by rw [s4]; exact s5
      have hP103 : P3 ≤ 103 := by omega
      have hsz := HU.out.size
      clear ha1 ha2 ha3 ha4 hP3
      by_cases hqn : q < n
      case' pos =>
       have d1 : decide ((q : Int) < (n : Int)) = true := decide_eq_true (by omega)
       have d2 : decide (q < n) = true := decide_eq_true hqn
       have d3 : decide ((P3 : Int) < 100) = false := decide_eq_false (by omega)
       have d4 : decide (P3 < 100) = false := decide_eq_false (by omega)
       go_upto_region 23 with fail
       clear d1 d2 d3 d4
      case' neg =>
       have d1 : decide ((q : Int) < (n : Int)) = false := decide_eq_false (by omega)
       have d2 : decide (q < n) = false := decide_eq_false hqn
       go_upto_region 23 with fail
       clear d1 d2
      all_goals
       clear hlq hqn hmin s1 s2 s3 s4 s5 s6
       go_wp2_with (at_builtin; refine stop_here ?_)
       refine Hid.mk ?_
       have hrow : (wp.alloc (.cells (xcells [⟨3, 0, 0, 0⟩, ⟨31, 0, 0, 0⟩, ⟨33, 0, 0, 0⟩]).toArray 29)).ownsRow w.heap.size 29 4 (.slice vp2 P3 vc2) P3 (xcells (codeQ n xs ys i q)) := by
        have h := HX.out.upd ((Upd.refl [] wp).alloc (.cells (xcells [⟨3, 0, 0, 0⟩, ⟨31, 0, 0, 0⟩, ⟨33, 0, 0, 0⟩]).toArray 29))
        unfold OwnX at h
        rwa [HLI3.out, HP3.out] at h
       refine (wpList_append_src rfl _ _ 30 rfl w.heap.size 29 ti _ 4 32 Tryd.underlying30 HTI.out HTZ0.out HTZ1.out HTZ2.out rfl (by decide) _ _ _ rfl hrow _ 3 (xcells [⟨3, 0, 0, 0⟩, ⟨31, 0, 0, 0⟩, ⟨33, 0, 0, 0⟩]) rfl (.inr ⟨_, _, rfl, fun j u hu => by
        rw [Addr.add_lit, Nat.zero_add, cell_of (heap_alloc_new wp _)]
        show ((xcells [⟨3, 0, 0, 0⟩, ⟨31, 0, 0, 0⟩, ⟨33, 0, 0, 0⟩]).toArray)[j]? = some u
        rw [List.getElem?_toArray]
        exact hu⟩) rfl (xcells_one _) (by unfold maxLen; omega) (by omega) (by simp; omega) ?_)
       intro v' w7 hown hgr _
       obtain ⟨hPu, hW, hBl⟩ := HX.out.push (ys := [⟨3, 0, 0, 0⟩, ⟨31, 0, 0, 0⟩, ⟨33, 0, 0, 0⟩]) (by rw [HLI3.out, HP3.out]; rfl) hown hgr
       rw [codeQ_all] at hPu
       have HU7 := Lib.hid (HU.out.trans' hW (fun q hq hl => by have := (hBl q hq).1; omega))
       have HB7 : Hid (w7.heap[wb]? = some (.cells (icells W) 2)) := hW.heap HB.out (fun hm => own_heap_ne HX.out HB.out (by decide) (Option.mem_toList.1 hm))
       have hlenA : (arrC n (setsOf xs ys i) q ++ [(⟨33, 0, 0, 0⟩ : Ins)]).length = P3 + 3 := by
        rw [← codeQ_all, List.length_append, codeQ_len, HP3.out]
        rfl
       obtain ⟨vp', vc', hv'⟩ := hPu.shape
       rw [hlenA] at hv'
       subst hv'
       have hn20 := HN2.out
       have hq103' := HQ103.out
       have hVF : Vf (arrP n (setsOf xs ys i) q) (arrP n (setsOf xs ys i) q).looks := arr_ok hn20 (by rw [setsOf_len]; omega) (by rw [setsOf_len]; exact hq103') (fun kv hkv => by
        unfold setsOf at hkv
        rw [List.mem_map] at hkv
        obtain ⟨j, hj, rfl⟩ := hkv
        rw [List.mem_range] at hj
        have hL2 := HL.out
        refine ⟨by unfold sAt in64; simp only; omega, ?_⟩
        unfold sAt
        simp only
        exact HY64.out _ (by rw [List.getD_eq_getElem?_getD, List.getElem?_eq_getElem (by omega)]; exact List.getElem_mem _))
       have hcode : CodeAt w7 (.slice vp' (P3 + 3) vc') (arrC n (setsOf xs ys i) q ++ [(⟨33, 0, 0, 0⟩ : Ins)]) := by
        have h := hPu.code (fun j hj => hVF.bd 0 j)
        exact h
       have hML := meths_lit w7 (arrP n (setsOf xs ys i) q).ms [.slice vp' (P3 + 3) vc'] rfl (by simp [arrP]) (fun j hj => by
        obtain rfl : j = 0 := by have h : j < 1 := hj; omega
        exact ⟨by show (0 : Nat) ≤ _; omega, by show (1 : Nat) ≤ _; decide, by show (1 : Nat) ≤ _; decide⟩) (fun j hj => by
        obtain rfl : j = 0 := by have h : j < 1 := hj; omega
        exact hcode)
       have hML2 : MethsAt (w7.alloc (.cells #[.string ⟨#[]⟩, .string ⟨#[82]⟩, .string ⟨#[73]⟩, .slice vp' (P3 + 3) vc'] 32)) (.slice (some ⟨w7.heap.size, 0, none⟩) 1 1) (arrP n (setsOf xs ys i) q).ms := hML
       have hua := (Upd.refl [] w7).alloc (.cells #[.string ⟨#[]⟩, .string ⟨#[82]⟩, .string ⟨#[73]⟩, .slice vp' (P3 + 3) vc'] 32)
       have HRUN := Lib.hid (mlaw_run (arrP n (setsOf xs ys i) q) (.slice none 0 0) (.slice (some ⟨w7.heap.size, 0, none⟩) 1 1) E _ (HS.out.upd (HU7.out.trans hua)) (class_nil _) hML2 hVF.ok (fun j hj => ⟨_, hVF.look.look j hj⟩) hVF.bd none 0 0 0 [] (lng_nil _) (fun _ => rfl) (by simp) (by simp) 0 (by omega))
       obtain ⟨TT, hTT⟩ : ∃ TT, (Mc.new (arrP n (setsOf xs ys i) q) [] 0).run (arrP n (setsOf xs ys i) q) = TT := ⟨_, rfl⟩
       rw [hTT] at HRUN
       have HTT := Lib.hid hTT
       have HUA := Lib.hid (HU7.out.trans hua)
       have HBA := Lib.hid (hua.heap HB7.out (by simp))
       have HVF := Lib.hid hVF
       obtain ⟨P5, hP5⟩ : ∃ P5, P3 + 3 = P5 := ⟨_, rfl⟩
       rw [hP5] at HRUN HUA HBA ⊢
       clear hPu hW hBl hown hgr hrow hlenA hVF hcode hML hML2 hua hTT hP5
       go_wp2_with fail
       refine HRUN.out.mono ?_
       rintro e w8 ⟨tq, tc, he, ho8, hu8⟩
       obtain ⟨fk, ft, fm, fp, fv, hF9⟩ : ∃ fk ft fm fp fv, TT.fin.getD ⟨0, 0, 0, 0, 0⟩ = ⟨fk, ft, fm, fp, fv⟩ := ⟨_, _, _, _, _, rfl⟩
       unfold outcells at he
       rw [hF9] at he
       have he2 : e = .returned (.tuple #[.agg #[.int .i64 fk, .int .i64 ft, .int .i64 fm, .int .i64 fp, .int .i64 fv, .slice tq TT.out.length tc], .bool true]) := he
       subst he2
       clear he
       obtain ⟨qb, hqi, _⟩ := OwnI.ints ho8
       have hu9 := (Upd.refl [] w8).alloc (.cells #[.int .i64 fk, .int .i64 ft, .int .i64 fm, .int .i64 fp, .int .i64 fv, .slice tq TT.out.length tc] 25)
       have HO9 := Lib.hid (heap_alloc_new w8 (.cells #[.int .i64 fk, .int .i64 ft, .int .i64 fm, .int .i64 fp, .int .i64 fv, .slice tq TT.out.length tc] 25))
       have HQ9 := Lib.hid (hqi.upd hu9 (by simp))
       have HU9 := Lib.hid (HUA.out.trans (hu8.trans hu9))
       have HB9 := Lib.hid ((hu8.trans hu9).heap HBA.out (by simp))
       have HF9 := Lib.hid hF9
       clear ho8 hu8 hu9 hqi hF9 HRUN HBA
       go_upto_region 27 with fail
       generalize w8.alloc (.cells #[.int .i64 fk, .int .i64 ft, .int .i64 fm, .int .i64 fp, .int .i64 fv, .slice tq TT.out.length tc] 25) = w9 at HO9 HQ9 HU9 HB9 ⊢
       obtain ⟨rb, hrb⟩ : ∃ rb, w8.heap.size = rb := ⟨_, rfl⟩
       rw [hrb] at HO9 ⊢
       clear hrb
       have c0 : w9.cell? ⟨rb, 0, none⟩ = some (.int .i64 fk) := by rw [cell_of HO9.out]; rfl
       have c1 : w9.cell? ⟨rb, 1, none⟩ = some (.int .i64 ft) := by rw [cell_of HO9.out]; rfl
       have c2 : w9.cell? ⟨rb, 2, none⟩ = some (.int .i64 fm) := by rw [cell_of HO9.out]; rfl
       have c3 : w9.cell? ⟨rb, 3, none⟩ = some (.int .i64 fp) := by rw [cell_of HO9.out]; rfl
       have c4 : w9.cell? ⟨rb, 4, none⟩ = some (.int .i64 fv) := by rw [cell_of HO9.out]; rfl
       have c5 : w9.cell? ⟨rb, 5, none⟩ = some (.slice tq TT.out.length tc) := by rw [cell_of HO9.out]; rfl
       have hff := HF9.out
       obtain ⟨hWl, ⟨hb, hgood, hWv⟩ | ⟨j, hj, hb, hgood, hbad⟩⟩ := HAL.out
       ·have hL2 := HL.out
        have hres := arr_good (n := n) (sets := setsOf xs ys i) (q := q) hn20 (by rw [setsOf_len]; omega) (by rw [setsOf_len]; exact hq103') hq (fun kv hkv => by
         unfold setsOf at hkv
         rw [List.mem_map] at hkv
         obtain ⟨j, hj, rfl⟩ := hkv
         rw [List.mem_range] at hj
         refine ⟨by unfold sAt in64; simp only; omega, ?_⟩
         unfold sAt
         simp only
         exact HY64.out _ (by rw [List.getD_eq_getElem?_getD, List.getElem?_eq_getElem (by omega)]; exact List.getElem_mem _)) (fun j hj => by
         rw [setsOf_len] at hj
         rw [setsOf_get xs ys hj]
         exact hgood j hj)
        rw [HTT.out] at hres
        rw [hres.1] at hff
        have hff2 : (⟨1, 0, 0, 0, n⟩ : Fend) = ⟨fk, ft, fm, fp, fv⟩ := hff
        injection hff2 with e1 e2 e3 e4 e5
        have hwv : IntsV w9.drew (.slice (some ⟨wb, 0, none⟩) q n) wb (W.take q) := by
         have h1 : (W.take q).length = q := by rw [List.length_take, hWl]; omega
         refine ⟨.inr ⟨n, by rw [h1]⟩, fun j hj => ?_⟩
         rw [h1] at hj
         have h2 : w9.drew.cell? ⟨wb, j, none⟩ = some (.int .i64 (W.getD j 0)) := by
          rw [cell_of (show w9.drew.heap[wb]? = _ from HB9.out)]
          exact icells_get W j (by rw [hWl]; omega)
         rw [h2, List.getD_eq_getElem?_getD, List.getD_eq_getElem?_getD, List.getElem?_take, if_pos hj]
        have HSO : Hid (Calls Tryd.prog 7 #[.agg #[.int .i64 fk, .int .i64 ft, .int .i64 fm, .int .i64 fp, .int .i64 fv, .slice tq TT.out.length tc], .agg #[.int .i64 1, .int .i64 0, .int .i64 0, .int .i64 0, .int .i64 n, .slice (some ⟨wb, 0, none⟩) q n]] w9.drew fun e w' => e = .returned (.bool true) ∧ Upd [] w9.drew w') := by
         have h3 := souts_any (HQ9.out.upd (Upd.refl [] _).drew (by simp)) hwv (by rw [hres.2]; simp; omega) fk ft fm fp fv 1 0 0 0 n
         rw [decide_eq_true (p := fk = 1 ∧ ft = 0 ∧ fm = 0 ∧ fp = 0 ∧ fv = (n : Int) ∧ TT.out = W.take q) ⟨e1.symm, e2.symm, e3.symm, e4.symm, e5.symm, by rw [hWv]; exact hres.2⟩] at h3
         exact h3
        subst hb
        have j1 : (0 : Int) ≤ (q : Int) := by omega
        have j2 : (q : Int) ≤ (n : Int) := by omega
        have j3 : q ≤ n := hq
        clear e1 e2 e3 e4 e5 hff hwv hres hgood hWv hWl hq hq103 hq103' hL2 hi
        go_upto_region 29 with fail
        go_region_held3 (fun w' => w'.cell? ⟨rb, 0, none⟩ = some (.int .i64 fk) ∧ w'.cell? ⟨rb, 1, none⟩ = some (.int .i64 ft) ∧ w'.cell? ⟨rb, 2, none⟩ = some (.int .i64 fm) ∧ w'.cell? ⟨rb, 3, none⟩ = some (.int .i64 fp) ∧ w'.cell? ⟨rb, 4, none⟩ = some (.int .i64 fv) ∧ w'.cell? ⟨rb, 5, none⟩ = some (.slice tq TT.out.length tc)) ((first | exact ⟨c0, c1, c2, c3, c4, c5⟩ | exact ⟨x0, x1, x2, x3, x4, x5⟩)) ((go_at_call 7; refine HSO.out.mono ?_; rintro e w10 ⟨rfl, hu10⟩; have HO10 := hu10.heap (show w9.drew.heap[rb]? = _ from HO9.out) (by simp); have x0 : w10.cell? ⟨rb, 0, none⟩ = some (.int .i64 fk) := (by rw [cell_of HO10]; rfl); have x1 : w10.cell? ⟨rb, 1, none⟩ = some (.int .i64 ft) := (by rw [cell_of HO10]; rfl); have x2 : w10.cell? ⟨rb, 2, none⟩ = some (.int .i64 fm) := (by rw [cell_of HO10]; rfl); have x3 : w10.cell? ⟨rb, 3, none⟩ = some (.int .i64 fp) := (by rw [cell_of HO10]; rfl); have x4 : w10.cell? ⟨rb, 4, none⟩ = some (.int .i64 fv) := (by rw [cell_of HO10]; rfl); have x5 : w10.cell? ⟨rb, 5, none⟩ = some (.slice tq TT.out.length tc) := (by rw [cell_of HO10]; rfl); have HU10 := Lib.hid (HU9.out.trans ((Upd.refl [] w9).drew.trans hu10)); clear hu10 HO10))
        go_wp2_with fail
        go_ret
        exact ⟨rfl, HU10.out⟩
       ·have hL2 := HL.out
        have hres := arr_bad (n := n) (sets := setsOf xs ys i) (q := q) (j := j) hn20 (by rw [setsOf_len]; omega) (by rw [setsOf_len]; exact hq103') (fun kv hkv => by
         unfold setsOf at hkv
         rw [List.mem_map] at hkv
         obtain ⟨j, hj, rfl⟩ := hkv
         rw [List.mem_range] at hj
         refine ⟨by unfold sAt in64; simp only; omega, ?_⟩
         unfold sAt
         simp only
         exact HY64.out _ (by rw [List.getD_eq_getElem?_getD, List.getElem?_eq_getElem (by omega)]; exact List.getElem_mem _)) (by rw [setsOf_len]; exact hj) (fun k hk => by
         rw [setsOf_get xs ys (by omega)]
         exact hgood k hk) (by rw [setsOf_get xs ys hj]; exact hbad)
        rw [HTT.out] at hres
        rw [hres.1] at hff
        have hff2 : (⟨2, 3, 0, ((3 + 4 * j + 3 : Nat) : Int), 0⟩ : Fend) = ⟨fk, ft, fm, fp, fv⟩ := hff
        injection hff2 with e1 e2 e3 e4 e5
        have HSO : Hid (Calls Tryd.prog 7 #[.agg #[.int .i64 fk, .int .i64 ft, .int .i64 fm, .int .i64 fp, .int .i64 fv, .slice tq TT.out.length tc], .agg #[.int .i64 2, .int .i64 3, .int .i64 0, .int .i64 bad, .int .i64 0, .slice none 0 0]] w9 fun e w' => e = .returned (.bool true) ∧ Upd [] w9 w') := by
         have h2 : IntsV w9 (.slice none 0 0) 0 [] := ⟨.inl ⟨rfl, rfl⟩, by simp⟩
         have h3 := souts_any HQ9.out h2 (by rw [hres.2]; simp) fk ft fm fp fv 2 3 0 bad 0
         rw [decide_eq_true (p := fk = 2 ∧ ft = 3 ∧ fm = 0 ∧ fp = bad ∧ fv = 0 ∧ TT.out = []) ⟨e1.symm, e2.symm, e3.symm, by rw [← e4, hb]; omega, e5.symm, hres.2⟩] at h3
         exact h3
        have d1 : decide (bad ≥ 0) = true := decide_eq_true (by omega)
        have d2 : decide (0 ≤ bad) = true := decide_eq_true (by omega)
        clear e1 e2 e3 e4 e5 hff hres hgood hWl hq hq103 hq103' hL2 hb hbad hj hi
        go_wp2_with fail
        refine HSO.out.mono ?_
        rintro e w10 ⟨rfl, hu10⟩
        have HU10 := Lib.hid (HU9.out.trans hu10)
        clear hu10
        go_wp2_with fail
        go_ret
        exact ⟨rfl, HU10.out⟩
end Go.Proofs.YtojobkhidlfeoaaDoor
