/- overdriveref.Methods: a copy of methods. -/
import Derived.Test.YtpmfbhoochogoaaDoorMthW
/-! overdriveref.Methods: a copy of methods. -/
namespace Go.Proofs.YtpmfbhoochogoaaDoor
open Go.RowKit

theorem make_mts (w : World) (m : Nat) (h : m ≤ 1000000) : ∃ Z : Array Value, Z.size = m * 4 ∧ (Instr.makeSlice 23 (.int .i64 0) (.int .i64 (m : Int))).run Tryd.prog w = .ok (.slice (some ⟨w.heap.size, 0, none⟩) 0 m) (w.alloc (.cells Z 39)) := by
  obtain ⟨i0, hi, hz0, hz1, hz2⟩ := info_parts Tryd.infoMethod
  have hmk := run_make (P := Tryd.prog) w 23 39 i0 _ Tryd.underlying23 hi hz0 .i64 .i64 0 (m : Int) (by omega) (by omega) (by rw [hz2]; omega) (by omega)
  rw [hz1] at hmk
  refine ⟨_, ?_, hmk⟩
  rw [size_madeCells]
  rfl

/-- The codes' blocks: between B and the world's end, rising. -/
structure Rise (w : World) (B : Nat) (vs : List Value) : Prop where
  at_ : ∀ i, i < vs.length → ∀ b, codeBlk (vs.getD i undef) = some b → B ≤ b ∧ b < w.heap.size ∧ ∃ cur : Array Value, w.heap[b]? = some (.cells cur 27)
  lt : ∀ i j, i < j → j < vs.length → ∀ a b, codeBlk (vs.getD i undef) = some a → codeBlk (vs.getD j undef) = some b → a < b
theorem Rise.nil (w : World) (B : Nat) : Rise w B [] := ⟨by simp, by simp⟩
theorem Rise.upd {w w' : World} {B : Nat} {vs : List Value} {S : List Nat} (h : Rise w B vs) (hu : Upd S w w') (hS : ∀ (b : Nat) (cur : Array Value), B ≤ b → w.heap[b]? = some (.cells cur 27) → b ∉ S) : Rise w' B vs :=
  ⟨fun i hi b hb => by obtain ⟨h1, h2, cur, h3⟩ := h.at_ i hi b hb; have := hu.size; exact ⟨h1, by omega, cur, hu.heap h3 (hS b cur h1 h3)⟩, h.lt⟩
theorem Rise.push {w w' : World} {B : Nat} {vs : List Value} {kv : Value} (h : Rise w B vs) (hu : Upd [] w w') (hB : B ≤ w.heap.size) (hk : ∀ b, codeBlk kv = some b → w.heap.size ≤ b ∧ b < w'.heap.size ∧ ∃ cur : Array Value, w'.heap[b]? = some (.cells cur 27)) : Rise w' B (vs ++ [kv]) := by
  have e1 : ∀ i, i < vs.length → (vs ++ [kv]).getD i undef = vs.getD i undef := fun i hi => by
    rw [List.getD_eq_getElem?_getD, List.getD_eq_getElem?_getD, List.getElem?_append_left hi]
  have e2 : (vs ++ [kv]).getD vs.length undef = kv := by simp [List.getD_eq_getElem?_getD]
  refine ⟨fun i hi b hb => ?_, fun i j hij hj a b ha hb => ?_⟩
  · by_cases e : i < vs.length
    · rw [e1 i e] at hb
      obtain ⟨h1, h2, cur, h3⟩ := h.at_ i e b hb
      have hs := hu.size
      exact ⟨h1, by omega, cur, hu.heap h3 (by simp)⟩
    · obtain rfl : i = vs.length := by simp at hi; omega
      rw [e2] at hb
      obtain ⟨h1, h2, h3⟩ := hk b hb
      exact ⟨by omega, h2, h3⟩
  · have hi : i < vs.length := by simp at hj; omega
    rw [e1 i hi] at ha
    by_cases e : j < vs.length
    · rw [e1 j e] at hb
      exact h.lt i j hij e a b ha hb
    · obtain rfl : j = vs.length := by simp at hj; omega
      rw [e2] at hb
      have := hk b hb
      have := h.at_ i hi a ha
      omega
theorem OwnX.blk2 {w : World} {B : Nat} {v : Value} {xs : List Ins} (h : OwnX w B v xs) (b : Nat) (hb : codeBlk v = some b) : B ≤ b ∧ b < w.heap.size ∧ ∃ cur : Array Value, w.heap[b]? = some (.cells cur 27) := by
  rcases h.2 with ⟨h1, h2⟩ | ⟨g, c, cur, h1, h3, h4, _⟩
  · rw [h1] at hb; simp [codeBlk] at hb
  · rw [h1] at hb
    simp only [codeBlk, Option.some.injEq] at hb
    subst hb
    exact ⟨h3, lt_of_heap h4, cur, h4⟩

set_option maxRecDepth 100000 in
set_option maxHeartbeats 4000000 in
theorem methods_any (v : Value) (ms : List Meth) (w : World) (h : MethsAt w v ms) (hn : ms.length ≤ 1000) (hk : ∀ j, j < ms.length → (ms.getD j default).code.length ≤ 1000) (hbd : ∀ j, j < ms.length → ∀ i, i < (ms.getD j default).code.length → ((ms.getD j default).code.getD i default).bd) :
    Calls Tryd.prog 32 #[v] w fun e w' => ∃ u vs, e = .returned u ∧ OwnM w' w.heap.size u ms vs ∧ Rise w' w.heap.size vs ∧ Upd [] w w' := by
  obtain ⟨i0, hi, hz0, hz1, hz2⟩ := info_parts Tryd.infoMethod
  have HI := Lib.hid hi
  have HZ0 := Lib.hid hz0
  have HZ1 := Lib.hid hz1
  have HZ2 := Lib.hid hz2
  clear hi hz0 hz1 hz2
  obtain ⟨a, cap, rfl, hl, hm, hx⟩ := h
  have HX0 := Lib.hid hx
  have HK0 := Lib.hid hk
  have HBD := Lib.hid hbd
  clear hx hm hl hk hbd
  obtain ⟨Z, hZ, hmk⟩ := make_mts w ms.length (by omega)
  have HO : Hid (OwnM (w.alloc (.cells Z 39)) w.heap.size (.slice (some ⟨w.heap.size, 0, none⟩) 0 ms.length) [] []) :=
    ⟨World.ownsRow_made w Z ms.length (Nat.le_refl _) (by unfold maxLen; omega) hZ, rfl, by simp⟩
  have HU0 := Lib.hid ((Upd.refl [] w).alloc (.cells Z 39))
  clear hZ
  go_enter Tryd.func32, Tryd.ntmps32
  go_wp2_with fail
  go_loopw [3, 4] (fun v iv wr => ∃ (i : Nat) (vs : List Value), i ≤ ms.length ∧ iv = .int .i64 i ∧ Hid (OwnM wr w.heap.size v (ms.take i) vs) ∧ Hid (Rise wr w.heap.size vs) ∧ Hid (Upd [] w wr)) (fun _ iv _ => ms.length - (intOf iv).toNat)
  case atStart => exact ⟨0, [], by omega, rfl, HO.out, Rise.nil _ _, HU0.out⟩
  case round =>
    clear HO HU0
    obtain ⟨i, vs, hi, rfl, HX, HR, HU⟩ := hrel
    obtain ⟨wo, rfl⟩ : ∃ wo : World, wo = wr := ⟨_, rfl⟩
    have hli : (ms.take i).length = i := by rw [List.length_take]; omega
    obtain ⟨vp, vc, hv⟩ := HX.out.shape
    rw [hli] at hv
    subst hv
    have HLI := Lib.hid hli
    have hvl := HX.out.len
    rw [hli] at hvl
    have HVL := Lib.hid hvl
    clear hli hvl
    by_cases hlt : i < ms.length
    · obtain ⟨b, o, rfl, hsz0, hm0, hm1, hm2, kv, hm3, hcode⟩ := HX0.out i hlt
      have hm0 := HU.out.cell hm0 (by simp)
      have hm1 := HU.out.cell hm1 (by simp)
      have hm2 := HU.out.cell hm2 (by simp)
      have hm3 := HU.out.cell hm3 (by simp)
      have hcode := hcode.upd HU.out
      have hkl := HK0.out i hlt
      have HBI := Lib.hid (HBD.out i hlt)
      have HT : Hid (ms.take i ++ [ms.getD i default] = ms.take (i + 1)) := by
        show _ = _
        rw [List.take_succ_eq_append_getElem hlt, List.getD_eq_getElem?_getD, List.getElem?_eq_getElem hlt]
        rfl
      generalize ms.getD i default = m at hm0 hm1 hm2 hm3 hcode hkl HBI HT
      clear hsz0
      obtain ⟨ka, kc, rfl, hrest⟩ := hcode
      have HC := Lib.hid (⟨ka, kc, rfl, hrest⟩ : CodeAt wo (.slice ka m.code.length kc) m.code)
      clear hrest
      go_wp2_with fail
      refine (method_any m (.slice ka m.code.length kc) wo HC.out hkl).mono ?_
      rintro e w5 ⟨u, rfl, hx5, hu5⟩
      obtain ⟨up, uc, rfl⟩ := hx5.shape
      have hc5 := Lib.hid (hx5.code HBI.out)
      have hcb5 := Lib.hid (fun b hb => hx5.blk2 b hb)
      have HOM5 := Lib.hid (HX.out.upd hu5)
      have HMS := Lib.hid hu5.size
      have HVB := Lib.hid HR.out.at_
      have HVL2 := Lib.hid (fun q hq => HX.out.blk q hq)
      have HU5 := Lib.hid (HU.out.trans hu5)
      have HSZ := Lib.hid HU.out.size
      have HR5 := Lib.hid (HR.out.push (kv := .slice up m.code.length uc) hu5 HU.out.size (fun b hb => by obtain ⟨h1, h2⟩ := hcb5.out b hb; exact ⟨by omega, h2⟩))
      clear hx5 hu5 hm0 hm1 hm2 hm3
      go_wp2_with (at_builtin; refine stop_here ?_)
      refine Hid.mk ?_
      have hn6 := heap_alloc_new w5 (.cells #[.string m.params, .string m.locals, .string m.ret, .slice up m.code.length uc] 39)
      have hrow := (HOM5.out.upd ((Upd.refl [] w5).alloc (.cells #[.string m.params, .string m.locals, .string m.ret, .slice up m.code.length uc] 39))).row
      rw [HLI.out] at hrow
      have hwz := HU5.out.size
      refine (wpList_append_src rfl _ _ 23 rfl w.heap.size 39 i0 _ 4 72 Tryd.underlying23 HI.out HZ0.out HZ1.out HZ2.out rfl (by decide) _ _ _ rfl hrow _ 1 [.string m.params, .string m.locals, .string m.ret, .slice up m.code.length uc] rfl (.inr ⟨_, _, rfl, fun j u hu => by
        rw [Addr.add_lit, Nat.zero_add, cell_of hn6]
        simpa using hu⟩) (by simp) (by simp [Value.oneCell']) (by unfold maxLen; omega) (by omega) (by simp; omega) ?_)
      intro v' w7 hown hgr hat
      have HOM7 := HOM5.out.push hc5.out (fun b hb => ⟨fun e => by have := (HVL2.out b e).2.1; have := hcb5.out b hb; omega, (hcb5.out b hb).2.1⟩) (fun i hi b hb => by have := HVB.out i (by have := HVL.out; have := HLI.out; omega) b hb; have := HMS.out; omega) (by rw [HLI.out]; exact hown) hgr hat
      have hwb := ((Upd.refl _ w5).alloc (.cells #[.string m.params, .string m.locals, .string m.ret, .slice up m.code.length uc] 39)).grown hgr (fun q hq => Or.inl (Option.mem_toList.2 hq))
      rw [HT.out] at HOM7
      have HO7 := Lib.hid HOM7
      have HR7 := Lib.hid (HR5.out.upd hwb (fun b cur _ hb hm => by
        obtain ⟨_, _, cur2, h9⟩ := HOM5.out.blk b (Option.mem_toList.1 hm)
        rw [h9] at hb
        injection hb with hb
        injection hb with _ hb _
        exact absurd hb (by decide)))
      have HU7 : Hid (Upd [] w w7) := HU5.out.trans' hwb (fun q hq hl => by have := (HVL2.out q (Option.mem_toList.1 hq)).1; omega)
      obtain ⟨p7, c7, rfl⟩ := HOM7.shape
      have HL2 : Hid ((ms.take (i + 1)).length = i + 1) := by show _ = _; rw [List.length_take]; omega
      clear HOM7 hwb hown hgr hat hrow hn6
      rw [HL2.out] at HO7 ⊢
      clear HL2 HT
      go_wp2_with fail
      go_roundw
      case rel => exact ⟨i + 1, _, by omega, by go_num, HO7.out, HR7.out, HU7.out⟩
      case measure => simp [intOf]; omega
    · obtain rfl : i = ms.length := by omega
      have HXX : Hid (OwnM wo w.heap.size (.slice vp ms.length vc) ms vs) := by
        have h := HX.out
        rwa [List.take_length] at h
      clear HX HLI
      go_wp2_with fail
      go_ret
      exact ⟨_, vs, rfl, HXX.out, HR.out, HU.out⟩
end Go.Proofs.YtpmfbhoochogoaaDoor
