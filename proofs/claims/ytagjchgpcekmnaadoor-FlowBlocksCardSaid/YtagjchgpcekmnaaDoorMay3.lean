/- overdriveref3.May: the walk. -/
import Derived.Test.YtagjchgpcekmnaaDoorMay2
import Derived.Test.YtagjchgpcekmnaaDoorInts
import Derived.Deep.DeepCutAuto
namespace Go.Proofs.YtagjchgpcekmnaaDoor
open Go.RowKit

/-- A fault's value. -/
def FaultV (w : World) (v : Value) (code : Int) (at_ : List Int) : Prop := ∃ s b, v = .agg #[.int .i64 code, s] ∧ IntsV w s b at_

set_option maxHeartbeats 400000 in
theorem bare_any (c : Int) (w : World) : Calls Tryd.prog 26 #[.int .i64 c] w fun e w' => e = .returned (.agg #[.int .i64 c, .slice none 0 0]) ∧ Upd [] w w' := by
  go_enter Tryd.func26, Tryd.ntmps26
  go_wp2_with fail
  refine bodyPost_ret (v := .agg #[.int .i64 c, .slice none 0 0]) (by simp [results, Tryd.results26, go_sem]) rfl ?_
  exact ⟨rfl, by first | exact (Upd.refl _ _).alloc _ | exact ((Upd.refl _ _).alloc _).setCell (Or.inr (by simp)) _⟩

set_option maxHeartbeats 400000 in
theorem none_any (w : World) : Calls Tryd.prog 30 #[] w fun e w' => e = .returned (.agg #[.int .i64 0, .slice none 0 0]) ∧ Upd [] w w' := by
  go_enter Tryd.func30, Tryd.ntmps30
  go_wp2_with fail
  refine bodyPost_ret (v := .agg #[.int .i64 0, .slice none 0 0]) (by simp [results, Tryd.results30, go_sem]) rfl ?_
  exact ⟨rfl, by first | exact (Upd.refl _ _).alloc _ | exact ((Upd.refl _ _).alloc _).setCell (Or.inr (by simp)) _⟩

set_option maxHeartbeats 400000 in
theorem there_fault (c x y : Int) (w : World) : Calls Tryd.prog 27 #[.int .i64 c, .int .i64 x, .int .i64 y] w fun e w' => ∃ b, e = .returned (.agg #[.int .i64 c, .slice (some ⟨b, 0, none⟩) 2 2]) ∧ IntsV w' (.slice (some ⟨b, 0, none⟩) 2 2) b [x, y] ∧ Upd [] w w' ∧ w.heap.size ≤ b := by
  go_enter Tryd.func27, Tryd.ntmps27
  go_wp2_with fail
  refine bodyPost_ret (v := .agg #[.int .i64 c, .slice (some ⟨w.heap.size + 1, 0, none⟩) 2 2]) (by simp [results, Tryd.results27, go_sem]) rfl ?_
  refine ⟨w.heap.size + 1, rfl, ?_, ((Upd.refl _ _).alloc _).alloc _, by omega⟩
  have h : IntsV (((w.alloc (.cells #[.int .i64 c, .slice (some ⟨w.heap.size + 1, 0, none⟩) 2 2] 30))).alloc (.cells #[.int .i64 x, .int .i64 y] 3)) _ _ _ := ints_lit (w.alloc (.cells #[.int .i64 c, .slice (some ⟨w.heap.size + 1, 0, none⟩) 2 2] 30)) [x, y] 3 rfl
  simpa using h

/-- Why a class may not be. -/
def clsCode (c : ByteArray) : Int := if 10 < c.size then 101 else if lettersB c then 0 else 102
def retOk (s : ByteArray) : Prop := s.toList = [] ∨ s.toList = [73] ∨ s.toList = [82]
instance (s : ByteArray) : Decidable (retOk s) := by unfold retOk; infer_instance
/-- Why a method's head may not be. -/
def headCode (k : Nat) (m : Meth) : Int :=
  if 12 < m.params.size ∨ (12 : Int) - m.params.size < m.locals.size ∨ m.code.length < 1 ∨ 120 < m.code.length then 101
  else if ¬ lettersB m.params = true ∨ ¬ lettersB m.locals = true ∨ ¬ retOk m.ret ∨ k = 0 ∧ (m.params.toList ≠ [] ∨ m.ret.toList = [82]) then 102 else 0

/-- What May tells of a program: the code and the place. -/
def MayIs (p : Prg) (c : Int) (at_ : List Int) : Prop :=
  ((12 < p.cs.length ∨ p.ms.length < 1 ∨ 12 < p.ms.length) ∧ c = 101 ∧ at_ = []) ∨
  ((p.cs.length ≤ 12 ∧ 1 ≤ p.ms.length ∧ p.ms.length ≤ 12) ∧
    ((∃ i : Nat, i < p.cs.length ∧ (∀ j, j < i → clsCode (p.cs.getD j ByteArray.empty) = 0) ∧ clsCode (p.cs.getD i ByteArray.empty) = c ∧ c ≠ 0 ∧ at_ = [(i : Int), -1]) ∨
     ((∀ j, j < p.cs.length → clsCode (p.cs.getD j ByteArray.empty) = 0) ∧
      ((∃ k : Nat, k < p.ms.length ∧ (∀ j, j < k → headCode j (p.ms.getD j default) = 0 ∧ ∀ q, q < (p.ms.getD j default).code.length → insCode p.cs p.ms.length (p.ms.getD j default) ((p.ms.getD j default).code.getD q default) = 0) ∧
          ((headCode k (p.ms.getD k default) = c ∧ c ≠ 0 ∧ at_ = [(k : Int), -1]) ∨
           (headCode k (p.ms.getD k default) = 0 ∧ ∃ pc : Nat, pc < (p.ms.getD k default).code.length ∧ (∀ q, q < pc → insCode p.cs p.ms.length (p.ms.getD k default) ((p.ms.getD k default).code.getD q default) = 0) ∧
              insCode p.cs p.ms.length (p.ms.getD k default) ((p.ms.getD k default).code.getD pc default) = c ∧ c ≠ 0 ∧ at_ = [(k : Int), (pc : Int)]))) ∨
       ((∀ j, j < p.ms.length → headCode j (p.ms.getD j default) = 0 ∧ ∀ q, q < (p.ms.getD j default).code.length → insCode p.cs p.ms.length (p.ms.getD j default) ((p.ms.getD j default).code.getD q default) = 0) ∧ c = 0 ∧ at_ = [])))))

/-- A program that may be. -/
structure Prg.Ok (p : Prg) : Prop where
  few : p.cs.length ≤ 12
  one : 1 ≤ p.ms.length
  many : p.ms.length ≤ 12
  cls : ∀ j, j < p.cs.length → clsCode (p.cs.getD j ByteArray.empty) = 0
  meth : ∀ j, j < p.ms.length → headCode j (p.ms.getD j default) = 0
  ins : ∀ j, j < p.ms.length → ∀ q, q < (p.ms.getD j default).code.length → insCode p.cs p.ms.length (p.ms.getD j default) ((p.ms.getD j default).code.getD q default) = 0

theorem MayIs.ok {p : Prg} {at_ : List Int} (h : MayIs p 0 at_) : p.Ok := by
  rcases h with ⟨_, h, _⟩ | ⟨⟨h1, h2, h3⟩, h | ⟨h4, h | ⟨h5, _, _⟩⟩⟩
  · cases h
  · obtain ⟨i, _, _, _, h, _⟩ := h; exact absurd rfl h
  · obtain ⟨k, _, _, ⟨_, h, _⟩ | ⟨_, pc, _, _, _, h, _⟩⟩ := h
    · exact absurd rfl h
    · exact absurd rfl h
  · exact ⟨h1, h2, h3, h4, fun j hj => (h5 j hj).1, fun j hj => (h5 j hj).2⟩

theorem Prg.Ok.small {p : Prg} (h : p.Ok) : ∀ c ∈ p.cs, c.size ≤ 10 := by
  intro c hc
  obtain ⟨i, hi, rfl⟩ := List.getElem_of_mem hc
  have := h.cls i hi
  rw [List.getD_eq_getElem?_getD, List.getElem?_eq_getElem hi, Option.getD_some] at this
  unfold clsCode at this
  split at this
  · cases this
  · omega

/-- .. and then its code is 0. -/
theorem MayIs.zero {p : Prg} {c : Int} {at_ : List Int} (h : MayIs p c at_) (hp : p.Ok) : c = 0 ∧ at_ = [] := by
  rcases h with ⟨h, _, _⟩ | ⟨⟨h1, h2, h3⟩, h | ⟨h4, h | ⟨h5, h6, h7⟩⟩⟩
  · have := hp.few; have := hp.one; have := hp.many; omega
  · obtain ⟨i, hi, _, h, h0, _⟩ := h
    exact absurd (h.symm.trans (hp.cls i hi)) h0
  · obtain ⟨k, hk, _, ⟨h, h0, _⟩ | ⟨_, pc, hpc, _, h, h0, _⟩⟩ := h
    · exact absurd (h.symm.trans (hp.meth k hk)) h0
    · exact absurd (h.symm.trans (hp.ins k hk pc hpc)) h0
  · exact ⟨h6, h7⟩

theorem instr_any (p : Prg) (m : Meth) (x : Ins) (cv : Value) (mp kp : Option Addr) (mc kc : Nat) (w : World) (hc : ClassAt w cv p.cs) (hcz : ∀ c ∈ p.cs, c.size ≤ 1000) (hp : m.params.size ≤ 1000) (hl : m.locals.size ≤ 1000) :
    Calls Tryd.prog 29 #[.agg #[cv, .slice mp p.ms.length mc], .agg #[.string m.params, .string m.locals, .string m.ret, .slice kp m.code.length kc], .agg #[.int .i64 x.op, .int .i64 x.a, .int .i64 x.b, .int .i64 x.n]] w fun e w' => e = .returned (.int .i64 (insCode p.cs p.ms.length m x)) ∧ Upd [] w w' := by
  obtain ⟨op, a, b, n⟩ := x
  obtain ⟨cb, co, hcls⟩ := hc.cls
  obtain ⟨cp, cc, hcv⟩ := hcls.shape
  by_cases h0 : op < 1 ∨ 35 < op
  · have e : insCode p.cs p.ms.length m ⟨op, a, b, n⟩ = 102 := by unfold insCode; rw [if_pos h0]
    rw [e]
    exact instr_bad cv _ m _ ⟨op, a, b, n⟩ w h0 hp hl
  · by_cases h1 : op = 3 ∨ op = 4
    · exact instr_local op a b n h1 _ _ m _ p.cs _ w hp hl
    · by_cases h2 : op = 24 ∨ op = 27
      · rw [hcv]; exact instr_class op a b n h2 _ m _ cp cc p.cs _ w hp hl
      · by_cases h3 : op = 25 ∨ op = 26
        · exact instr_field op a b n h3 _ m _ cv cb co p.cs _ w hp hl hcls hcz
        · by_cases h4 : op = 28 ∨ op = 29 ∨ op = 30
          · exact instr_arr op a b n h4 _ _ m _ p.cs _ w hp hl
          · by_cases h5 : op = 32
            · exact instr_call op a b n h5 _ m _ _ _ p.cs _ w hp hl
            · by_cases h6 : op = 22 ∨ op = 23
              · exact instr_jump op a b n h6 _ _ m _ _ p.cs _ w hp hl
              · refine instr_plain op a b n (by omega) (by omega) (by unfold UA; omega) (by unfold UB; omega) ?_ ?_ ?_ ?_ ?_ ?_ ?_ ?_ ?_ ?_ ?_ ?_ _ _ m _ p.cs _ w hp hl
                all_goals (rw [beq_eq_false_iff_ne]; omega)

/-- A fault's code. -/
theorem fault_code (w : World) (c : Int) (p : Option Addr) (n k : Nat) : (Instr.field 30 (.agg #[.int .i64 c, .slice p n k]) 0).run Tryd.prog w = .ok (.int .i64 c) w := by kernel_rfl

/-- The box of the program, and of the answer, in the midst of May. -/
def MB (w wr : World) (cv mv : Value) : Prop :=
  wr.heap[w.heap.size]? = some (.cells #[cv, mv] 25) ∧ wr.heap[w.heap.size + 1]? = some (.cells #[.int .i64 0, .slice none 0 0] 30) ∧ Upd [] w wr

theorem MB.upd {w wr w1 : World} {cv mv : Value} (h : MB w wr cv mv) (hu : Upd [] wr w1) : MB w w1 cv mv := ⟨hu.heap h.1 (by simp), hu.heap h.2.1 (by simp), h.2.2.trans hu⟩
theorem MB.start (w : World) (cv mv : Value) : MB w ((w.alloc (.cells #[cv, mv] 25)).alloc (.cells #[.int .i64 0, .slice none 0 0] 30)) cv mv := by
  refine ⟨((Upd.refl [] _).alloc _).heap (heap_alloc_new w _) (by simp), ?_, ((Upd.refl _ _).alloc _).alloc _⟩
  have := heap_alloc_new (w.alloc (.cells #[cv, mv] 25)) (.cells #[.int .i64 0, .slice none 0 0] 30)
  rwa [World.size_alloc] at this

theorem may_end {p : Prg} {w w1 : World} {c x y : Int} {b : Nat} (hu : Upd [] w w1) (hb : w.heap.size + 2 ≤ b) (hi : IntsV w1 (.slice (some ⟨b, 0, none⟩) 2 2) b [x, y]) (hm : MayIs p c [x, y]) :
    ∃ c' s b' at_, Ending.returned (.agg #[.int .i64 c, .slice (some ⟨b, 0, none⟩) 2 2]) = .returned (.agg #[.int .i64 c', s]) ∧
      IntsV ((w1.setCell ⟨w.heap.size + 1, 0, none⟩ (.int .i64 c)).setCell ⟨w.heap.size + 1, 1, none⟩ (.slice (some ⟨b, 0, none⟩) 2 2)) s b' at_ ∧ MayIs p c' at_ ∧
      Upd [] w ((w1.setCell ⟨w.heap.size + 1, 0, none⟩ (.int .i64 c)).setCell ⟨w.heap.size + 1, 1, none⟩ (.slice (some ⟨b, 0, none⟩) 2 2)) := by
  refine ⟨c, _, b, _, rfl, hi.upd (T := [w.heap.size + 1]) (((Upd.refl _ _).setCell (Or.inl (by simp)) _).setCell (Or.inl (by simp)) _) (.inr (by simp; omega)), hm, (hu.setCell (Or.inr (by simp)) _).setCell (Or.inr (by simp)) _⟩

set_option maxRecDepth 100000 in
set_option maxHeartbeats 2000000 in
theorem may_any (p : Prg) (cv mv : Value) (w : World) (hc : ClassAt w cv p.cs) (hm : MethsAt w mv p.ms) :
    Calls Tryd.prog 11 #[.agg #[cv, mv]] w fun e w' => ∃ c s b at_, e = .returned (.agg #[.int .i64 c, s]) ∧ IntsV w' s b at_ ∧ MayIs p c at_ ∧ Upd [] w w' := by
  have HCA := Lib.hid hc
  obtain ⟨ca, cc, rfl, hca, hcl, hcm, hcx⟩ := hc
  obtain ⟨ma, mc, rfl, hml, hmm, hmx⟩ := hm
  have HCX := Lib.hid hcx
  have HMX := Lib.hid hmx
  clear hcx hmx hca
  unfold maxLen at hcm hmm
  by_cases hbad : 12 < p.cs.length ∨ p.ms.length < 1 ∨ 12 < p.ms.length
  · have HBAD := Lib.hid hbad
    by_cases h1 : 12 < p.cs.length
    · have d1 : decide ((12 : Int) < (p.cs.length : Int)) = true := by simp; omega
      clear hbad
      go_enter Tryd.func11, Tryd.ntmps11
      go_wp2_with fail
      refine (bare_any _ _).mono ?_
      rintro e w1 ⟨rfl, hu⟩
      have hr := hu.heap (heap_alloc_new (w.alloc (.cells #[.slice ca p.cs.length cc, .slice ma p.ms.length mc] 25)) (.cells #[.int .i64 0, .slice none 0 0] 30)) (by simp)
      rw [World.size_alloc] at hr
      have hr0 := cell_of hr 0
      have hr1 := cell_of hr 1
      have hf0 := froz_of hr 0
      have hf1 := froz_of hr 1
      go_wp2_with fail
      refine bodyPost_ret (v := .agg #[.int .i64 101, .slice none 0 0]) (by simp [results, Tryd.results11, go_sem, hr0, hr1]) rfl ?_
      exact ⟨101, _, 0, [], rfl, ⟨.inl ⟨rfl, rfl⟩, by simp⟩, .inl ⟨HBAD.out, rfl, rfl⟩, ((((((Upd.refl [] w).alloc _).alloc _).trans hu)).setCell (Or.inr (by simp)) _).setCell (Or.inr (by simp)) _⟩
    · have d1 : decide ((12 : Int) < (p.cs.length : Int)) = false := by simp; omega
      by_cases h2 : p.ms.length < 1
      · have d2 : decide ((p.ms.length : Int) < 1) = true := by simp; omega
        clear hbad
        go_enter Tryd.func11, Tryd.ntmps11
        go_wp2_with fail
        refine (bare_any _ _).mono ?_
        rintro e w1 ⟨rfl, hu⟩
        have hr := hu.heap (heap_alloc_new (w.alloc (.cells #[.slice ca p.cs.length cc, .slice ma p.ms.length mc] 25)) (.cells #[.int .i64 0, .slice none 0 0] 30)) (by simp)
        rw [World.size_alloc] at hr
        have hr0 := cell_of hr 0
        have hr1 := cell_of hr 1
        have hf0 := froz_of hr 0
        have hf1 := froz_of hr 1
        go_wp2_with fail
        refine bodyPost_ret (v := .agg #[.int .i64 101, .slice none 0 0]) (by simp [results, Tryd.results11, go_sem, hr0, hr1]) rfl ?_
        exact ⟨101, _, 0, [], rfl, ⟨.inl ⟨rfl, rfl⟩, by simp⟩, .inl ⟨HBAD.out, rfl, rfl⟩, ((((((Upd.refl [] w).alloc _).alloc _).trans hu)).setCell (Or.inr (by simp)) _).setCell (Or.inr (by simp)) _⟩
      · have d2 : decide ((p.ms.length : Int) < 1) = false := by simp; omega
        have d3 : decide ((12 : Int) < (p.ms.length : Int)) = true := by simp; omega
        clear hbad
        go_enter Tryd.func11, Tryd.ntmps11
        go_wp2_with fail
        refine (bare_any _ _).mono ?_
        rintro e w1 ⟨rfl, hu⟩
        have hr := hu.heap (heap_alloc_new (w.alloc (.cells #[.slice ca p.cs.length cc, .slice ma p.ms.length mc] 25)) (.cells #[.int .i64 0, .slice none 0 0] 30)) (by simp)
        rw [World.size_alloc] at hr
        have hr0 := cell_of hr 0
        have hr1 := cell_of hr 1
        have hf0 := froz_of hr 0
        have hf1 := froz_of hr 1
        go_wp2_with fail
        refine bodyPost_ret (v := .agg #[.int .i64 101, .slice none 0 0]) (by simp [results, Tryd.results11, go_sem, hr0, hr1]) rfl ?_
        exact ⟨101, _, 0, [], rfl, ⟨.inl ⟨rfl, rfl⟩, by simp⟩, .inl ⟨HBAD.out, rfl, rfl⟩, ((((((Upd.refl [] w).alloc _).alloc _).trans hu)).setCell (Or.inr (by simp)) _).setCell (Or.inr (by simp)) _⟩
  · have d1 : decide ((12 : Int) < (p.cs.length : Int)) = false := by simp; omega
    have d2 : decide ((p.ms.length : Int) < 1) = false := by simp; omega
    have d3 : decide ((12 : Int) < (p.ms.length : Int)) = false := by simp; omega
    go_enter Tryd.func11, Tryd.ntmps11
    go_wp2_with fail
    go_loopw [3] (fun i wr => ∃ k : Nat, k ≤ p.cs.length ∧ i = .int .i64 k ∧ MB w wr (.slice ca p.cs.length cc) (.slice ma p.ms.length mc) ∧ Hid (∀ j, j < k → clsCode (p.cs.getD j ByteArray.empty) = 0)) (fun i _ => p.cs.length - (intOf i).toNat)
    case atStart => exact ⟨0, by omega, rfl, MB.start w _ _, (fun j hj => by omega : ∀ j, j < 0 → _)⟩
    case round =>
      obtain ⟨k, hk, rfl, hMB, HK⟩ := hrel
      have hb0 := cell_of hMB.1 0
      have hb1 := cell_of hMB.1 1
      by_cases hlt : k < p.cs.length
      · obtain ⟨b, o, rfl, hsz, hcell⟩ := HCX.out k hlt
        have hx := hMB.2.2.cell hcell (by simp)
        have HCC := Lib.hid (show clsCode (p.cs.getD k ByteArray.empty) = if 10 < (p.cs.getD k ByteArray.empty).size then 101 else if lettersB (p.cs.getD k ByteArray.empty) then 0 else 102 from rfl)
        generalize hcc : p.cs.getD k ByteArray.empty = s at hx hsz HCC
        have HS := Lib.hid hcc
        clear hcc hcell
        unfold maxLen at hsz
        obtain ⟨wo, rfl⟩ : ∃ wo : World, wo = wr := ⟨_, rfl⟩
        by_cases c1 : 10 < s.size
        · have d4 : decide ((10 : Int) < (s.size : Int)) = true := by simp; omega
          go_wp2_with fail
          refine (there_fault _ _ _ _).mono ?_
          rintro e w1 ⟨b, rfl, hi, hu, hlb⟩
          have hMB1 := hMB.upd hu
          have hr0 := cell_of hMB1.2.1 0
          have hr1 := cell_of hMB1.2.1 1
          have hf0 := froz_of hMB1.2.1 0
          have hf1 := froz_of hMB1.2.1 1
          have hs1 := lt_of_heap hMB.2.1
          go_wp2_with fail
          refine bodyPost_ret (v := .agg #[.int .i64 101, .slice (some ⟨b, 0, none⟩) 2 2]) (by simp [results, Tryd.results11, go_sem, hr0, hr1]) rfl ?_
          refine may_end hMB1.2.2 (by omega) hi (.inr ⟨by omega, .inl ⟨k, hlt, HK.out, ?_, by omega, rfl⟩⟩)
          rw [HS.out, HCC.out, if_pos c1]
        · have d4 : decide ((10 : Int) < (s.size : Int)) = false := by simp; omega
          cases hl : lettersB s with
          | false =>
            have HL := Lib.hid (fun w => letters_any s w (by omega))
            rw [hl] at HL
            have HLL := Lib.hid hl
            clear hl
            go_wp2_with fail
            refine (HL.out _).mono ?_
            rintro e w' ⟨rfl, rfl⟩
            go_wp2_with fail
            refine (there_fault _ _ _ _).mono ?_
            rintro e w1 ⟨b, rfl, hi, hu, hlb⟩
            have hMB1 := hMB.upd hu
            have hr0 := cell_of hMB1.2.1 0
            have hr1 := cell_of hMB1.2.1 1
            have hf0 := froz_of hMB1.2.1 0
            have hf1 := froz_of hMB1.2.1 1
            have hs1 := lt_of_heap hMB.2.1
            go_wp2_with fail
            refine bodyPost_ret (v := .agg #[.int .i64 102, .slice (some ⟨b, 0, none⟩) 2 2]) (by simp [results, Tryd.results11, go_sem, hr0, hr1]) rfl ?_
            refine may_end hMB1.2.2 (by omega) hi (.inr ⟨by omega, .inl ⟨k, hlt, HK.out, ?_, by omega, rfl⟩⟩)
            rw [HS.out, HCC.out, if_neg c1, if_neg (by rw [HLL.out]; simp)]
          | true =>
            have HL := Lib.hid (fun w => letters_any s w (by omega))
            rw [hl] at HL
            have HLL := Lib.hid hl
            clear hl
            go_wp2_with fail
            refine (HL.out _).mono ?_
            rintro e w' ⟨rfl, rfl⟩
            go_wp2_with fail
            go_roundw
            case rel =>
              refine ⟨k + 1, by omega, by go_num, hMB, (fun j hj => ?_ : ∀ j, j < k + 1 → _)⟩
              by_cases e : j = k
              · subst e; rw [HS.out, HCC.out, if_neg c1, if_pos HLL.out]
              · exact HK.out j (by omega)
            case measure => simp [intOf]; omega
      · obtain rfl : k = p.cs.length := by omega
        obtain ⟨wo, rfl⟩ : ∃ wo : World, wo = wr := ⟨_, rfl⟩
        go_wp2_with fail
        go_loopw [5] (fun i wr => ∃ k : Nat, k ≤ p.ms.length ∧ i = .int .i64 k ∧ MB w wr (.slice ca p.cs.length cc) (.slice ma p.ms.length mc) ∧ Hid (∀ j, j < k → headCode j (p.ms.getD j default) = 0 ∧ ∀ q, q < (p.ms.getD j default).code.length → insCode p.cs p.ms.length (p.ms.getD j default) ((p.ms.getD j default).code.getD q default) = 0)) (fun i _ => p.ms.length - (intOf i).toNat)
        case atStart => exact ⟨0, by omega, rfl, hMB, (fun j hj => by omega : ∀ j, j < 0 → _)⟩
        case round =>
          clear hb0 hb1 hMB
          obtain ⟨k, hk, rfl, hMB, HM⟩ := hrel
          have hb0 := cell_of hMB.1 0
          have hb1 := cell_of hMB.1 1
          by_cases hlt : k < p.ms.length
          · obtain ⟨b, o, rfl, hsz, hm0, hm1, hm2, kv, hm3, hcode⟩ := HMX.out k hlt
            have hx0 := hMB.2.2.cell hm0 (by simp)
            have hx1 := hMB.2.2.cell hm1 (by simp)
            have hx2 := hMB.2.2.cell hm2 (by simp)
            have hx3 := hMB.2.2.cell hm3 (by simp)
            have hcd := hcode
            obtain ⟨z0, z1, z2⟩ := hsz
            clear hm0 hm1 hm2 hm3 hcode
            have HCC := Lib.hid (rfl : headCode k (p.ms.getD k default) = headCode k (p.ms.getD k default))
            generalize hmm2 : p.ms.getD k default = m at hx0 hx1 hx2 hx3 z0 z1 z2 hcd HCC
            have HS := Lib.hid hmm2
            clear hmm2
            unfold maxLen at z0 z1 z2
            obtain ⟨ka, kc, rfl, hkl, hkm, hkx⟩ := hcd
            have HKX := Lib.hid hkx
            clear hkx
            unfold maxLen at hkm
            obtain ⟨wo2, rfl⟩ : ∃ wo : World, wo = wr := ⟨_, rfl⟩
            by_cases c1 : 12 < m.params.size ∨ (12 : Int) - m.params.size < m.locals.size ∨ m.code.length < 1 ∨ 120 < m.code.length
            · have HC1 := Lib.hid c1
              clear c1
              go_upto_region 15 with fail
              go_cut [87] (fun s wx => s = .bool true ∧ MB w wx (.slice ca p.cs.length cc) (.slice (some ⟨b, o, none⟩) p.ms.length mc))
              case first =>
                go_wp2_with fail
                all_goals go_meet
                all_goals refine ⟨?_, hMB.upd ((Upd.refl _ _).alloc _)⟩
                all_goals first | rfl | (congr 1; have := HC1.out; simp only [Bool.or_eq_true, decide_eq_true_eq]; omega)
              case rest =>
                obtain ⟨rfl, hMB2⟩ := hcut
                clear hx0 hx1 hx2 hx3 hMB hb0 hb1
                obtain ⟨w3, rfl⟩ : ∃ w3 : World, w3 = wc := ⟨_, rfl⟩
                go_wp2_with fail
                refine (there_fault _ _ _ _).mono ?_
                rintro e w1 ⟨b', rfl, hi, hu, hlb⟩
                have hMB1 := hMB2.upd hu
                have hr0 := cell_of hMB1.2.1 0
                have hr1 := cell_of hMB1.2.1 1
                have hf0 := froz_of hMB1.2.1 0
                have hf1 := froz_of hMB1.2.1 1
                have hs1 := lt_of_heap hMB2.2.1
                go_wp2_with fail
                refine bodyPost_ret (v := .agg #[.int .i64 101, .slice (some ⟨b', 0, none⟩) 2 2]) (by simp [results, Tryd.results11, go_sem, hr0, hr1]) rfl ?_
                refine may_end hMB1.2.2 (by omega) hi (.inr ⟨by omega, .inr ⟨HK.out, .inl ⟨k, hlt, HM.out, .inl ⟨?_, by omega, rfl⟩⟩⟩⟩)
                rw [HS.out, headCode, if_pos HC1.out]
            · have hp : m.params.size ≤ 12 := by omega
              have hp2 : (m.locals.size : Int) ≤ 12 - m.params.size := by omega
              have hp3 : 1 ≤ m.code.length := by omega
              have hp4 : m.code.length ≤ 120 := by omega
              have HC1 := Lib.hid c1
              clear c1
              have d4 : decide ((12 : Int) < (m.params.size : Int)) = false := by simp; omega
              have d5 : decide ((12 : Int) - (m.params.size : Int) < (m.locals.size : Int)) = false := by simp; omega
              have d6 : decide ((m.code.length : Int) < 1) = false := by simp; omega
              have d7 : decide ((120 : Int) < (m.code.length : Int)) = false := by simp; omega
              go_upto_region 17 with fail
              go_cut [7] (fun s7 wx => s7 = .bool (decide (retOk m.ret)) ∧ MB w wx (.slice ca p.cs.length cc) (.slice (some ⟨b, o, none⟩) p.ms.length mc) ∧ wx.heap[wo2.heap.size]? = some (.cells #[.string m.params, .string m.locals, .string m.ret, .slice ka m.code.length kc] 36))
              case first =>
                go_wp2_with fail
                all_goals go_meet
                all_goals refine ⟨?_, hMB.upd ((Upd.refl _ _).alloc _), heap_alloc_new _ _⟩
                all_goals (congr 1; rw [Bool.eq_iff_iff, decide_eq_true_eq]; unfold retOk; simp_all)
              case rest =>
                obtain ⟨rfl, hMB2, hmb⟩ := hcut
                clear hx0 hx1 hx2 hx3 hMB hb0 hb1
                have hb0 := cell_of hMB2.1 0
                have hb1 := cell_of hMB2.1 1
                have hm0 := cell_of hmb 0
                have hm1 := cell_of hmb 1
                have hm2 := cell_of hmb 2
                have hm3 := cell_of hmb 3
                obtain ⟨w3, rfl⟩ : ∃ w3 : World, w3 = wc := ⟨_, rfl⟩
                go_upto_region 18 with fail
                go_cut [5, 7, 130] (fun s5 s7 s wx => s5 = .int .i64 k ∧ s7 = .bool (decide (retOk m.ret)) ∧ s = .bool (decide (¬ lettersB m.params = true ∨ ¬ lettersB m.locals = true ∨ ¬ retOk m.ret ∨ k = 0 ∧ (m.params.toList ≠ [] ∨ m.ret.toList = [82]))) ∧ w3 = wx)
                case first =>
                  go_wp2_with (go_at_call 28; refine (letters_any _ _ (by omega)).mono ?_; rintro e w' ⟨rfl, rfl⟩)
                  all_goals go_meet
                  all_goals refine ⟨?_, ?_, ?_, ?_⟩
                  all_goals first | rfl | (simp_all; done) | (congr 1; rw [Bool.eq_iff_iff, decide_eq_true_eq]; simp_all; done)
                case rest =>
                  obtain ⟨rfl, rfl, rfl, rfl⟩ := hcut
                  by_cases hbad2 : ¬ lettersB m.params = true ∨ ¬ lettersB m.locals = true ∨ ¬ retOk m.ret ∨ k = 0 ∧ (m.params.toList ≠ [] ∨ m.ret.toList = [82])
                  · rw [decide_eq_true hbad2]
                    have HB2 := Lib.hid hbad2
                    clear hbad2
                    go_wp2_with fail
                    refine (there_fault _ _ _ _).mono ?_
                    rintro e w1 ⟨b', rfl, hi, hu, hlb⟩
                    have hMB1 := hMB2.upd hu
                    have hr0 := cell_of hMB1.2.1 0
                    have hr1 := cell_of hMB1.2.1 1
                    have hf0 := froz_of hMB1.2.1 0
                    have hf1 := froz_of hMB1.2.1 1
                    have hs1 := lt_of_heap hMB2.2.1
                    go_wp2_with fail
                    refine bodyPost_ret (v := .agg #[.int .i64 102, .slice (some ⟨b', 0, none⟩) 2 2]) (by simp [results, Tryd.results11, go_sem, hr0, hr1]) rfl ?_
                    refine may_end hMB1.2.2 (by omega) hi (.inr ⟨by omega, .inr ⟨HK.out, .inl ⟨k, hlt, HM.out, .inl ⟨?_, by omega, rfl⟩⟩⟩⟩)
                    rw [HS.out, headCode, if_neg HC1.out, if_pos HB2.out]
                  · rw [decide_eq_false hbad2]
                    have HH := Lib.hid (show headCode k m = 0 by rw [headCode, if_neg HC1.out, if_neg hbad2])
                    clear hbad2
                    have hcdd := hMB2
                    go_wp2_with fail
                    go_loopw [8] (fun i wr => ∃ q : Nat, q ≤ m.code.length ∧ i = .int .i64 q ∧ MB w wr (.slice ca p.cs.length cc) (.slice (some ⟨b, o, none⟩) p.ms.length mc) ∧ wr.heap[wo2.heap.size]? = some (.cells #[.string m.params, .string m.locals, .string m.ret, .slice ka m.code.length kc] 36) ∧ Upd [] w3 wr ∧
                      Hid (∀ j, j < q → insCode p.cs p.ms.length m (m.code.getD j default) = 0)) (fun i _ => m.code.length - (intOf i).toNat)
                    case atStart => exact ⟨0, by omega, rfl, hMB2, hmb, Upd.refl _ _, (fun j hj => by omega : ∀ j, j < 0 → _)⟩
                    case round =>
                      obtain ⟨q, hq, rfl, hMB3, hmb3, hu3, HQ⟩ := hrel
                      clear hb0 hb1 hm0 hm1 hm2 hm3
                      have hb0 := cell_of hMB3.1 0
                      have hb1 := cell_of hMB3.1 1
                      have hm0 := cell_of hmb3 0
                      have hm1 := cell_of hmb3 1
                      have hm2 := cell_of hmb3 2
                      have hm3 := cell_of hmb3 3
                      by_cases hql : q < m.code.length
                      · obtain ⟨bk, ok, rfl, hxb, hxi⟩ := HKX.out q hql
                        have HXC := Lib.hid (fun w' hw => instr_any p m (m.code.getD q default) (.slice ca p.cs.length cc) (some ⟨b, o, none⟩) (some ⟨bk, ok, none⟩) mc kc w' hw (fun c hc => by
                          obtain ⟨i, hi, rfl⟩ := List.getElem_of_mem hc
                          have := HK.out i hi
                          rw [List.getD_eq_getElem?_getD, List.getElem?_eq_getElem hi, Option.getD_some] at this
                          unfold clsCode at this
                          split at this
                          · cases this
                          · omega) (by omega) (by omega))
                        have HMX2 := Lib.hid (rfl : insCode p.cs p.ms.length m (m.code.getD q default) = insCode p.cs p.ms.length m (m.code.getD q default))
                        generalize hxx : m.code.getD q default = x at HXC hxi HMX2
                        have HXX := Lib.hid hxx
                        clear hxx
                        have hx0 := hMB3.2.2.cell hxi.1 (by simp)
                        have hx1 := hMB3.2.2.cell hxi.2.1 (by simp)
                        have hx2 := hMB3.2.2.cell hxi.2.2.1 (by simp)
                        have hx3 := hMB3.2.2.cell hxi.2.2.2 (by simp)
                        obtain ⟨w4, rfl⟩ : ∃ w4 : World, w4 = wr := ⟨_, rfl⟩
                        go_wp2_with fail
                        go_still_tail 7, (by kernel_rfl)
                        change wpList _ _ _ _ _ w4.drew
                        have hMB5 := hMB3.upd ((Upd.refl [] w4).drew)
                        have hmb5 : w4.drew.heap[wo2.heap.size]? = _ := hmb3
                        have hu5 := hu3.drew
                        clear hMB3 hmb3 hu3 hx0 hx1 hx2 hx3 hb0 hb1 hm0 hm1 hm2 hm3
                        generalize w4.drew = w5 at hMB5 hmb5 hu5 ⊢
                        go_wp2_with fail
                        refine (HXC.out _ (HCA.out.upd hMB5.2.2)).mono ?_
                        rintro e w6 ⟨rfl, hu6⟩
                        have hMB6 := hMB5.upd hu6
                        have hmb6 := hu6.heap hmb5 (by simp)
                        have hb0 := cell_of hMB6.1 0
                        have hb1 := cell_of hMB6.1 1
                        generalize hic : insCode p.cs p.ms.length m x = ic at HMX2 ⊢
                        have HIC := Lib.hid hic
                        clear hic hMB5 hmb5
                        by_cases hz : ic = 0
                        · have hzb : (ic != 0) = false := by rw [hz]; rfl
                          have HZ := Lib.hid hz
                          clear hz
                          go_wp2_with fail
                          go_roundw
                          case rel =>
                            refine ⟨q + 1, by omega, by go_num, hMB6, hmb6, hu5.trans hu6, (fun j hj => ?_ : ∀ j, j < q + 1 → _)⟩
                            by_cases e : j = q
                            · subst e; rw [HXX.out, HIC.out]; exact HZ.out
                            · exact HQ.out j (by omega)
                          case measure => simp [intOf]; omega
                        · have hzb : (ic != 0) = true := by rw [bne_iff_ne]; exact hz
                          have HZ := Lib.hid hz
                          clear hz
                          go_wp2_with fail
                          refine (there_fault _ _ _ _).mono ?_
                          rintro e w1 ⟨b', rfl, hi, hu, hlb⟩
                          have hMB1 := hMB6.upd hu
                          have hr0 := cell_of hMB1.2.1 0
                          have hr1 := cell_of hMB1.2.1 1
                          have hf0 := froz_of hMB1.2.1 0
                          have hf1 := froz_of hMB1.2.1 1
                          have hs1 := lt_of_heap hMB6.2.1
                          go_wp2_with fail
                          refine bodyPost_ret (v := .agg #[.int .i64 ic, .slice (some ⟨b', 0, none⟩) 2 2]) (by simp [results, Tryd.results11, go_sem, hr0, hr1]) rfl ?_
                          refine may_end hMB1.2.2 (by omega) hi (.inr ⟨by omega, .inr ⟨HK.out, .inl ⟨k, hlt, HM.out, .inr ⟨?_, q, ?_, ?_, ?_, HZ.out, rfl⟩⟩⟩⟩)
                          · rw [HS.out]; exact HH.out
                          · rw [HS.out]; exact hql
                          · rw [HS.out]; exact HQ.out
                          · rw [HS.out, HXX.out]; exact HIC.out
                      · obtain rfl : q = m.code.length := by omega
                        go_wp2_with fail
                        go_roundw
                        case rel =>
                          refine ⟨k + 1, by omega, by go_num, hMB3, (fun j hj => ?_ : ∀ j, j < k + 1 → _)⟩
                          by_cases e : j = k
                          · subst e; rw [HS.out]; exact ⟨HH.out, HQ.out⟩
                          · exact HM.out j (by omega)
                        case measure => simp [intOf]; omega
          · obtain rfl : k = p.ms.length := by omega
            go_wp2_with fail
            refine (none_any _).mono ?_
            rintro e w1 ⟨rfl, hu⟩
            have hMB1 := hMB.upd hu
            have hr0 := cell_of hMB1.2.1 0
            have hr1 := cell_of hMB1.2.1 1
            have hf0 := froz_of hMB1.2.1 0
            have hf1 := froz_of hMB1.2.1 1
            go_wp2_with fail
            refine bodyPost_ret (v := .agg #[.int .i64 0, .slice none 0 0]) (by simp [results, Tryd.results11, go_sem, hr0, hr1]) rfl ?_
            exact ⟨0, _, 0, [], rfl, ⟨.inl ⟨rfl, rfl⟩, by simp⟩, .inr ⟨by omega, .inr ⟨HK.out, .inr ⟨HM.out, rfl, rfl⟩⟩⟩, (hMB1.2.2.setCell (Or.inr (by simp)) _).setCell (Or.inr (by simp)) _⟩

end Go.Proofs.YtagjchgpcekmnaaDoor
