/- verify.Info.Program; live.Map.work: which locals are live. live.Map.work: which locals are live. -/
import Derived.Test.YtpmfbhoochogoaaGreatDoorLivB
import Derived.Test.YtpmfbhoochogoaaGreatDoorAtW
import Derived.Test.YtpmfbhoochogoaaGreatDoorInfoA
import Derived.Deep.RegionHeld3
/-! verify.Info.Program; live.Map.work: which locals are live. -/
/-! verify.Info.Program. -/
namespace Go.Proofs.YtpmfbhoochogoaaGreatDoor
open Go.RowKit

/-- A block without an instruction is none of a code's. -/
theorem CodeAt.off {w w' : World} {v : Value} {xs : List Ins} {B : Nat} (h : CodeAt w v xs) (hu : Upd [B] w w') (hB : ∀ o x, ¬ InsAt w B o x) : CodeAt w' v xs := by
  obtain ⟨a, cap, h1, h2, h3, h4⟩ := h
  refine ⟨a, cap, h1, h2, h3, fun i hi => ?_⟩
  obtain ⟨b, o, h5, h6, h7⟩ := h4 i hi
  have hb : b ∉ [B] := by
    intro hm
    simp at hm
    subst hm
    exact hB _ _ h7
  exact ⟨b, o, h5, h6, hu.cell h7.1 hb, hu.cell h7.2.1 hb, hu.cell h7.2.2.1 hb, hu.cell h7.2.2.2 hb⟩
theorem MethsAt.off {w w' : World} {v : Value} {ms : List Meth} {B : Nat} (h : MethsAt w v ms) (hu : Upd [B] w w') (hB : ∀ o x, ¬ InsAt w B o x) (hB2 : ∀ o s, w.cell? ⟨B, o, none⟩ ≠ some (.string s)) : MethsAt w' v ms := by
  obtain ⟨a, cap, h1, h2, h3, h4⟩ := h
  refine ⟨a, cap, h1, h2, h3, fun i hi => ?_⟩
  obtain ⟨b, o, h5, h6, h7, h8, h9, u, h10, h11⟩ := h4 i hi
  have hb : b ∉ [B] := by
    intro hm
    simp at hm
    subst hm
    exact hB2 _ _ h7
  exact ⟨b, o, h5, h6, hu.cell h7 hb, hu.cell h8 hb, hu.cell h9 hb, u, hu.cell h10 hb, h11.off hu hB⟩
theorem ClassAt.off {w w' : World} {v : Value} {cs : List ByteArray} {B : Nat} (h : ClassAt w v cs) (hu : Upd [B] w w') (hB2 : ∀ o s, w.cell? ⟨B, o, none⟩ ≠ some (.string s)) : ClassAt w' v cs := by
  obtain ⟨a, cap, h1, h0, h2, h3, h4⟩ := h
  refine ⟨a, cap, h1, h0, h2, h3, fun i hi => ?_⟩
  obtain ⟨b, o, h5, h6, h7⟩ := h4 i hi
  have hb : b ∉ [B] := by
    intro hm
    simp at hm
    subst hm
    exact hB2 _ _ h7
  exact ⟨b, o, h5, h6, hu.cell h7 hb⟩
theorem two_slices {w : World} {B n1 n2 c1 c2 : Nat} {p1 p2 : Option Addr} {t : TypeId} (h : w.heap[B]? = some (.cells #[.slice p1 n1 c1, .slice p2 n2 c2] t)) (o : Nat) : w.cell? ⟨B, o, none⟩ = none ∨ ∃ p n c, w.cell? ⟨B, o, none⟩ = some (.slice p n c) := by
  rw [cell_of h]
  match o with
  | 0 => exact .inr ⟨_, _, _, rfl⟩
  | 1 => exact .inr ⟨_, _, _, rfl⟩
  | o + 2 => left; simp

set_option maxRecDepth 100000 in
set_option maxHeartbeats 2000000 in
theorem iprog_any (ib : Nat) (p : Prg) (ss : List Lk) (n : Int) (w : World) (h : InfoAt w ib p ss n) (hn : p.ms.length ≤ 1000) (hn2 : p.cs.length ≤ 1000) (hk : ∀ j, j < p.ms.length → (p.ms.getD j default).code.length ≤ 1000) :
    Calls Tryz.prog 52 #[.pointer (some ⟨ib, 0, none⟩)] w fun e w' => ∃ cv mv, e = .returned (.agg #[cv, mv]) ∧ ClassAt w' cv p.cs ∧ MethsAt w' mv p.ms ∧ Upd [] w w' := by
  obtain ⟨cv, mv, lv, hb, hc, hm, _⟩ := h
  obtain ⟨cp, cc, rfl, hcx⟩ := id hc
  obtain ⟨mp, mc, rfl, hmx⟩ := id hm
  have hb0 := ((Upd.refl [] w).alloc (.cells #[.slice none 0 0, .slice none 0 0] 36)).heap hb (by simp)
  have hA := heap_alloc_new w (.cells #[.slice none 0 0, .slice none 0 0] 36)
  have hu0 := (Upd.refl [] w).alloc (.cells #[.slice none 0 0, .slice none 0 0] 36)
  have HC := Lib.hid ((hc.reads (offW_reads w ib)).upd hu0)
  have HM := Lib.hid ((hm.reads (offW_reads w ib)).upd hu0)
  clear hcx hmx hc hm
  go_enter Tryz.func52, Tryz.ntmps52
  go_upto_region 1 with fail
  generalize w.alloc (.cells #[.slice none 0 0, .slice none 0 0] 36) = w0 at hb0 hA hu0 HC HM ⊢
  have c0 : w0.cell? ⟨ib, 0, none⟩ = some (.slice cp p.cs.length cc) := by rw [cell_of hb0]; rfl
  have c1 : w0.cell? ⟨ib, 1, none⟩ = some (.slice mp p.ms.length mc) := by rw [cell_of hb0]; rfl
  have HCP := Lib.hid (copied_any p _ _ w0 HC.out HM.out hn hn2 hk)
  have HA := Lib.hid hA
  have HU0 := Lib.hid hu0
  clear hb0 hA hu0
  go_wp2_with fail
  refine HCP.out.mono ?_
  rintro e w1 ⟨cv', mv', rfl, hc1, hm1, hu1⟩
  obtain ⟨cp1, cc1, rfl, hcx⟩ := id hc1
  obtain ⟨mp1, mc1, rfl, hmx⟩ := id hm1
  have hA1 := hu1.heap HA.out (by simp)
  have f0 := froz_of hA1 0
  have f1 := froz_of hA1 1
  have a0 : w1.cell? ⟨w.heap.size, 0, none⟩ = some (.slice none 0 0) := by rw [cell_of hA1]; rfl
  have a1 : w1.cell? ⟨w.heap.size, 1, none⟩ = some (.slice none 0 0) := by rw [cell_of hA1]; rfl
  have HA1 := Lib.hid hA1
  have HC1 := Lib.hid hc1
  have HM1 := Lib.hid hm1
  have HU1 := Lib.hid (HU0.out.trans hu1)
  clear hcx hmx hc1 hm1 hu1 hA1
  go_wp2_with fail
  have k1 := heap_setCell HA1.out 0 (.slice cp1 p.cs.length cc1)
  have k2 := heap_setCell k1 1 (.slice mp1 p.ms.length mc1)
  have d0 := cell_of k2 0
  have d1 := cell_of k2 1
  simp at d0 d1
  have hst : Upd [w.heap.size] w1 ((w1.setCell ⟨w.heap.size, 0, none⟩ (.slice cp1 p.cs.length cc1)).setCell ⟨w.heap.size, 1, none⟩ (.slice mp1 p.ms.length mc1)) := ((Upd.refl _ _).setCell (.inl (by simp)) _).setCell (.inl (by simp)) _
  refine bodyPost_ret (v := .agg #[.slice cp1 p.cs.length cc1, .slice mp1 p.ms.length mc1]) (by simp [results, Tryz.results52, go_sem, d0, d1]) rfl ?_
  have hB2 : ∀ o s, w1.cell? ⟨w.heap.size, o, none⟩ ≠ some (.string s) := fun o s he => by
    rcases two_slices HA1.out o with h | ⟨_, _, _, h⟩
    · rw [h] at he; cases he
    · rw [h] at he; cases he
  have hB : ∀ o x, ¬ InsAt w1 w.heap.size o x := fun o x hx => by
    have he := hx.1
    rcases two_slices HA1.out o with h | ⟨_, _, _, h⟩
    · rw [h] at he; cases he
    · rw [h] at he; cases he
  exact ⟨_, _, rfl, HC1.out.off hst hB2, HM1.out.off hst hB hB2, HU1.out.trans' hst (fun q hq hl => by simp at hq; omega)⟩
end Go.Proofs.YtpmfbhoochogoaaGreatDoor

/-! live.Map.work: which locals are live. -/
/-! live.Map.work. -/
namespace Go.Proofs.YtpmfbhoochogoaaGreatDoor
open Go.RowKit

theorem Prg.Ok.load {p : Prg} (h : p.Ok) {k pc : Nat} (hk : k < p.ms.length) (hpc : pc < (p.ms.getD k default).code.length) (hop : ((p.ms.getD k default).code.getD pc default).op = 3 ∨ ((p.ms.getD k default).code.getD pc default).op = 4) :
    0 ≤ ((p.ms.getD k default).code.getD pc default).a ∧ ((p.ms.getD k default).code.getD pc default).a < ((kindsL (p.ms.getD k default)).length : Int) := by
  have h1 := h.ins k hk pc hpc
  unfold insCode at h1
  split at h1
  · cases h1
  · split at h1
    · cases h1
    · rename_i h2
      unfold kindsL
      rw [List.length_append, ← size_list, ← size_list]
      by_cases c : (((p.ms.getD k default).code.getD pc default).a < 0 ∨ ((p.ms.getD k default).params.size : Int) + (p.ms.getD k default).locals.size ≤ ((p.ms.getD k default).code.getD pc default).a)
      · exact absurd ⟨hop, c⟩ h2
      · omega
theorem Prg.Ok.jump {p : Prg} (h : p.Ok) {k pc : Nat} (hk : k < p.ms.length) (hpc : pc < (p.ms.getD k default).code.length) (hop : ((p.ms.getD k default).code.getD pc default).op = 22 ∨ ((p.ms.getD k default).code.getD pc default).op = 23) :
    0 ≤ ((p.ms.getD k default).code.getD pc default).a ∧ ((p.ms.getD k default).code.getD pc default).a < ((p.ms.getD k default).code.length : Int) := by
  have h1 := h.ins k hk pc hpc
  generalize p.ms.getD k default = m at h1 hop ⊢
  generalize m.code.getD pc default = x at h1 hop ⊢
  unfold insCode at h1
  by_cases c : x.a < 0 ∨ (m.code.length : Int) ≤ x.a
  · split at h1
    · cases h1
    split at h1
    · cases h1
    split at h1
    · cases h1
    split at h1
    · cases h1
    split at h1
    · cases h1
    rw [if_pos ⟨hop, c⟩] at h1
    cases h1
  · omega
theorem Prg.Ok.nexts {p : Prg} (h : p.Ok) {k : Nat} (hk : k < p.ms.length) (pc : Int) : ∀ q ∈ nextL (p.ms.getD k default).code pc, 0 ≤ q := by
  intro q hq
  unfold nextL at hq
  split at hq
  · rename_i hp
    obtain ⟨i, rfl⟩ := Int.eq_ofNat_of_zero_le hp.1
    rw [Int.toNat_natCast] at hq
    have hj := h.jump hk (pc := i) (by omega)
    clear hp
    generalize p.ms.getD k default = m at hq hj
    generalize m.code.getD i default = x at hq hj
    split at hq
    · cases hq
    · split at hq
      · rename_i e; have := hj (.inl e); rw [List.mem_singleton] at hq; omega
      · split at hq
        · rename_i e; have := hj (.inr e)
          split at hq
          · rw [List.mem_singleton] at hq; omega
          · split at hq
            · rw [List.mem_cons, List.mem_singleton] at hq; omega
            · rw [List.mem_cons, List.mem_singleton] at hq; omega
        · rw [List.mem_singleton] at hq; omega
  · cases hq

theorem Tryz.infoPtrSet : (Tryz.prog.info? 148).map (fun i => (i.zero, i.size, i.bytes)) = some (some (.pointer none), 1, 8) := by kernel_rfl
theorem make_setsL (w : World) (m : Nat) (h : m ≤ 1000000) : (Instr.makeSlice 145 (.int .i64 (m : Int)) (.int .i64 (m : Int))).run Tryz.prog w = .ok (.slice (some ⟨w.heap.size, 0, none⟩) m m) (w.alloc (.cells (List.replicate m (Value.pointer none)).toArray 148)) := by
  obtain ⟨i0, hi, hz0, hz1, hz2⟩ := info_parts Tryz.infoPtrSet
  have hmk := run_make (P := Tryz.prog) w 145 148 i0 (.pointer none) Tryz.underlying145 hi hz0 .i64 .i64 (m : Int) (m : Int) (by omega) (by omega) (by rw [hz2]; omega) (by omega)
  rw [hz1, Nat.mul_one] at hmk
  have e : madeCells (Value.pointer none).cells m = (List.replicate m (Value.pointer none)).toArray := by
    unfold madeCells
    apply Array.ext_getElem?
    intro i
    by_cases h : i < m
    · simp [h, Value.cells, Nat.mod_one]
    · simp [h]
  simpa [e] using hmk
/-- The box of a map holds no instruction. -/
theorem map_no_ins {w : World} {mb ib : Nat} {k d st : Int} {m : Meth} {kv lv : Value} (h : w.heap[mb]? = some (.cells (mapCells ib k d st m kv lv) 147)) (hkv : ∀ x, kv ≠ .int .i64 x) (hlv : ∀ x, lv ≠ .int .i64 x) (o : Nat) (x : Ins) : ¬ InsAt w mb o x := by
  rintro ⟨h0, h1, _, _⟩
  rw [cell_of h] at h0 h1
  unfold mapCells at h0 h1
  match o with
  | 0 => cases h0
  | 1 => cases h1
  | 2 => cases h0
  | 3 => cases h0
  | 4 => cases h0
  | 5 => cases h0
  | 6 => cases h0
  | 7 => cases h0
  | 8 => simp at h0; exact hkv _ h0
  | 9 => simp at h0; exact hlv _ h0
  | o + 10 => simp at h0

/-- One set is turned. -/
theorem MapIn.put {w w' : World} {B mb lb ib nk : Nat} {k d st : Int} {m : Meth} {kv : Value} {seen : Nat → Bool} {F : Nat → Nat → Bool} {bk gk : Nat → Nat} (h : MapIn w B mb lb ib nk k d st m kv seen F bk gk) {pc : Nat} (hpc : pc < m.code.length) (hs : seen pc = true) (hu : Upd [gk pc] w w') {ws : List Nat} (hw : SetAt w' (bk pc) (gk pc) nk ws) (hmb : mb < B) (htb : 10 < B) :
    MapIn w' B mb lb ib nk k d st m kv seen (putF F pc (bhas ws)) bk gk := by
  have hf := (h.sets.far pc hpc hs).1
  refine ⟨hu.heap h.box (by simp; omega), ?_, h.sets.put hpc hs hu hw, h.tz.upd hu (by simp; omega), h.kinds, h.par, h.loc, h.few, h.next⟩
  refine h.code.off hu (fun o x hx => ?_)
  obtain ⟨vs, hv, _⟩ := h.sets.set pc hpc hs
  have h0 := hx.1
  rw [cell_of hv.2.1] at h0
  by_cases ho : o < vs.length
  · rw [ucells_get _ _ ho] at h0
    simp at h0
  · rw [Array.getElem?_eq_none (by simp [ucells]; omega)] at h0
    cases h0
theorem CodeAt.offs {w w' : World} {v : Value} {xs : List Ins} {T : List Nat} (h : CodeAt w v xs) (hu : Upd T w w') (hB : ∀ B ∈ T, ∀ o x, ¬ InsAt w B o x) : CodeAt w' v xs := by
  obtain ⟨a, cap, h1, h2, h3, h4⟩ := h
  refine ⟨a, cap, h1, h2, h3, fun i hi => ?_⟩
  obtain ⟨b, o, h5, h6, h7⟩ := h4 i hi
  have hb : b ∉ T := fun hm => hB b hm _ _ h7
  exact ⟨b, o, h5, h6, hu.cell h7.1 hb, hu.cell h7.2.1 hb, hu.cell h7.2.2.1 hb, hu.cell h7.2.2.2 hb⟩
theorem LSets.no_ins {w : World} {B lb n nk : Nat} {seen : Nat → Bool} {F : Nat → Nat → Bool} {bk gk : Nat → Nat} (h : LSets w B lb n nk seen F bk gk) (o : Nat) (x : Ins) : ¬ InsAt w lb o x := by
  rintro ⟨h0, _⟩
  rw [cell_of h.tab] at h0
  by_cases ho : o < n
  · rw [ptrs_get _ _ _ _ ho] at h0
    unfold ptrV at h0
    split at h0 <;> cases h0
  · rw [Array.getElem?_eq_none (by rw [ptrs_size]; omega)] at h0
    cases h0
theorem InfoAt.no_ins {w : World} {ib : Nat} {p : Prg} {ss : List Lk} {n : Int} (h : InfoAt w ib p ss n) (o : Nat) (x : Ins) : ¬ InsAt w ib o x := by
  obtain ⟨cv, mv, lv, hb, ⟨_, _, rfl, _⟩, ⟨_, _, rfl, _⟩, ⟨_, _, rfl, _⟩⟩ := h
  rintro ⟨h0, h1, _⟩
  rw [cell_of hb] at h0 h1
  match o with
  | 0 => cases h0
  | 1 => cases h0
  | 2 => cases h0
  | 3 => cases h1
  | o + 4 => simp at h0
theorem sound_zero (xs : List Ins) (seen : Nat → Bool) : SoundF xs seen (fun _ _ => false) := fun _ _ h => by cases h
def chM : Value → Nat
  | .bool true => 1
  | _ => 0
theorem putF_le {F : Nat → Nat → Bool} {pc : Nat} {f : Nat → Bool} (h : ∀ k, F pc k = true → f k = true) : ∀ i k, F i k = true → putF F pc f i k = true := by
  intro i k hk
  unfold putF
  split
  · rename_i e; subst e; exact h k hk
  · exact hk
theorem putF_same {F : Nat → Nat → Bool} {pc : Nat} {f : Nat → Bool} (h : ∀ k, f k = F pc k) : putF F pc f = F := by
  funext i k
  unfold putF
  split
  · rename_i e; subst e; exact h k
  · rfl

abbrev nilM : Meth := ⟨⟨#[]⟩, ⟨#[]⟩, ⟨#[]⟩, []⟩
/-- Which places a look has reached. -/
def seenF (s : Lk) (i : Nat) : Bool := s.seen.getD i false

set_option maxRecDepth 100000 in
set_option maxHeartbeats 8000000 in
theorem work_any (mb ib : Nat) (p : Prg) (ss : List Lk) (n0 a0 : Int) (k : Nat) (m : Meth) (s : Lk) (W0 w : World) (hmd : m = p.ms.getD k default) (hsd : s = ss.getD k default) (hi : InfoK W0 w ib p ss n0 a0) (hw0 : W0.heap.size ≤ mb) (hl : ss.length = p.ms.length) (hk : k < p.ms.length) (hok : p.Ok) (hlk : ∀ j, j < p.ms.length → lookM p (p.ms.getD j default) = .ok (ss.getD j default)) (h0 : 0 ≤ a0) (h1 : a0 ≤ 900000000)
    (hb : w.heap[mb]? = some (.cells (mapCells ib k 0 1 nilM (.slice none 0 0) (.slice none 0 0)) 147)) (hT : TzAt w) :
    Calls Tryz.prog 88 #[.pointer (some ⟨mb, 0, none⟩)] w fun e w' => e = .returned (.tuple #[]) ∧ ∃ lb kv F bk gk, MapIn w' w.heap.size mb lb ib (kindsL m).length k 0 1 m kv (seenF s) F bk gk ∧ (∀ pc q, F pc q = true ↔ LiveR m.code (fun i => seenF s i = true) pc q) ∧ InfoK W0 w' ib p ss n0 (a0 + m.code.length) ∧ Upd [mb, ib] w w' := by
  have hib := hi.lt
  have hws := hi.upd.size
  have hmbw := lt_of_heap hb
  have hmt : mb ≠ 10 := by
    rintro rfl
    have h2 := hT 0 (by decide)
    rw [cell_of hb] at h2
    cases h2
  have hit : ib ≠ 10 := by
    rintro rfl
    have h2 := hT 0 (by decide)
    obtain ⟨cv, mv, lv, hbx, ⟨_, _, rfl, _⟩, _⟩ := hi.now
    rw [cell_of hbx] at h2
    cases h2
  have hmi : mb ≠ ib := by omega
  have HOK := Lib.hid hok
  have HLK := Lib.hid hlk
  have HI := Lib.hid hi
  have HT := Lib.hid hT
  have hcl := hok.code1 k hk
  have hsz := hok.sizes k
  rw [← hmd] at hcl hsz
  have HMD := Lib.hid hmd
  have HSD := Lib.hid hsd
  have hmany := hok.many
  have hfew := hok.few
  have HPR := Lib.hid (iprog_any ib p ss a0 w hi.now (by omega) (by omega) (fun j hj => by have := hok.code1 j hj; omega))
  have m0 : w.cell? ⟨mb, 0, none⟩ = some (.pointer (some ⟨ib, 0, none⟩)) := by rw [cell_of hb]; rfl
  have HB := Lib.hid hb
  clear hi hT hok hlk hb hmd hsd
  go_enter Tryz.func88, Tryz.ntmps88
  go_wp2_with fail
  refine HPR.out.mono ?_
  rintro e w1 ⟨cv, mv, rfl, hc1, hm1, hu1⟩
  obtain ⟨cp, cc, rfl, hcx⟩ := id hc1
  obtain ⟨mp, mc, rfl, hml, hmm, hmx⟩ := id hm1
  clear hcx
  unfold maxLen at hmm
  have hb1 := hu1.heap HB.out (by simp)
  have hu2 := (Upd.refl [] w1).alloc (.cells #[.slice cp p.cs.length cc, .slice mp p.ms.length mc] 36)
  have hp2 := heap_alloc_new w1 (.cells #[.slice cp p.cs.length cc, .slice mp p.ms.length mc] 36)
  have HB2 := Lib.hid (hu2.heap hb1 (by simp))
  have HM2 := Lib.hid (hm1.upd hu2)
  have HI2 := Lib.hid ((HI.out.keep hu1 (by simp)).keep hu2 (by simp))
  have HU2 := Lib.hid (hu1.trans hu2)
  clear hb1 hu2 hc1 hm1 hmx hu1 HB HI m0
  go_upto_region 1 with fail
  generalize w1.alloc (.cells #[.slice cp p.cs.length cc, .slice mp p.ms.length mc] 36) = w2 at hp2 HB2 HM2 HI2 HU2 ⊢
  generalize w1.heap.size = pb at hp2 ⊢
  have p1 : w2.cell? ⟨pb, 1, none⟩ = some (.slice mp p.ms.length mc) := by rw [cell_of hp2]; rfl
  have m1 : w2.cell? ⟨mb, 1, none⟩ = some (.int .i64 k) := by rw [cell_of HB2.out]; rfl
  have g1 : decide ((k : Int) < 0) = false := decide_eq_false (by omega)
  have g2 : decide ((p.ms.length : Int) ≤ (k : Int)) = false := decide_eq_false (by omega)
  have g3 : decide (p.ms.length ≤ k) = false := decide_eq_false (by omega)
  have HP2 := Lib.hid hp2
  clear hp2
  go_quiet (fail)
  have hud := (Upd.refl [] w2).drewN nq
  have HB3 := Lib.hid (hud.heap HB2.out (by simp))
  have HM3 := Lib.hid (HM2.out.upd hud)
  have HI3 := Lib.hid (HI2.out.keep hud (by simp))
  have HU3 := Lib.hid (HU2.out.trans hud)
  have p1 := hud.cell p1 (by simp)
  have m1 := hud.cell m1 (by simp)
  clear hud HB2 HM2 HI2 HU2
  generalize w2.drewN nq = w3 at HB3 HM3 HI3 HU3 p1 m1 ⊢
  obtain ⟨a3, c3, he3, _, _, hx3⟩ := HM3.out
  injection he3 with he3 _ _
  subst he3
  obtain ⟨b3, o3, rfl, hsz3, n0, n1, n2, kv, n3, hcode⟩ := hx3 k hk
  rw [← HMD.out] at n0 n1 n2 hcode hsz3
  have HSZ3 := Lib.hid hsz3
  have HCO := Lib.hid hcode
  obtain ⟨ka, kc, hkv, _⟩ := hcode
  subst hkv
  have f5 := froz_of HB3.out 5
  have f6 := froz_of HB3.out 6
  have f7 := froz_of HB3.out 7
  have f8 := froz_of HB3.out 8
  have e5 : w3.cell? ⟨mb, 5, none⟩ = some (.string ⟨#[]⟩) := by rw [cell_of HB3.out]; rfl
  have e6 : w3.cell? ⟨mb, 6, none⟩ = some (.string ⟨#[]⟩) := by rw [cell_of HB3.out]; rfl
  have e7 : w3.cell? ⟨mb, 7, none⟩ = some (.string ⟨#[]⟩) := by rw [cell_of HB3.out]; rfl
  have e8 : w3.cell? ⟨mb, 8, none⟩ = some (.slice none 0 0) := by rw [cell_of HB3.out]; rfl
  clear hx3 hsz3
  go_upto_region 2 with fail
  go_region
  have k5 := heap_setCell HB3.out 5 (.string m.params)
  have k6 := heap_setCell k5 6 (.string m.locals)
  have k7 := heap_setCell k6 7 (.string m.ret)
  have k8 := heap_setCell k7 8 (.slice ka m.code.length kc)
  have hst : Upd [mb] w3 ((((w3.setCell ⟨mb, 5, none⟩ (.string m.params)).setCell ⟨mb, 6, none⟩ (.string m.locals)).setCell ⟨mb, 7, none⟩ (.string m.ret)).setCell ⟨mb, 8, none⟩ (.slice ka m.code.length kc)).drew :=
    (((((Upd.refl _ w3).setCell (.inl (by simp)) _).setCell (.inl (by simp)) _).setCell (.inl (by simp)) _).setCell (.inl (by simp)) _).drew
  have HB4 : Hid (((((w3.setCell ⟨mb, 5, none⟩ (.string m.params)).setCell ⟨mb, 6, none⟩ (.string m.locals)).setCell ⟨mb, 7, none⟩ (.string m.ret)).setCell ⟨mb, 8, none⟩ (.slice ka m.code.length kc)).drew.heap[mb]? = some (.cells (mapCells ib k 0 1 m (.slice ka m.code.length kc) (.slice none 0 0)) 147)) := k8
  have HCO4 := Lib.hid (HCO.out.off hst (map_no_ins HB3.out (by simp) (by simp)))
  have HI4 := Lib.hid (HI3.out.keep hst (by simp; omega))
  have HU4 : Hid (Upd [mb] w _) := (HU3.out.mono (T := [mb]) (by simp)).trans hst
  have HTM := Lib.hid hmt
  have HTI := Lib.hid hit
  have HMI := Lib.hid hmi
  clear k5 k6 k7 k8 hst HB3 HCO HI3 HU3 e5 e6 e7 e8 f5 f6 f7 f8 n0 n1 n2 n3 p1 m1 hmt hit hmi
  generalize ((((w3.setCell ⟨mb, 5, none⟩ (.string m.params)).setCell ⟨mb, 6, none⟩ (.string m.locals)).setCell ⟨mb, 7, none⟩ (.string m.ret)).setCell ⟨mb, 8, none⟩ (.slice ka m.code.length kc)).drew = w4 at HB4 HCO4 HI4 HU4 ⊢
  have m8 : w4.cell? ⟨mb, 8, none⟩ = some (.slice ka m.code.length kc) := by rw [cell_of HB4.out]; rfl
  have m9 : w4.cell? ⟨mb, 9, none⟩ = some (.slice none 0 0) := by rw [cell_of HB4.out]; rfl
  have f9 := froz_of HB4.out 9
  obtain ⟨Z, hZ, hmk⟩ : ∃ Z : Array Value, Z = (List.replicate m.code.length (Value.pointer none)).toArray ∧ (Instr.makeSlice 145 (.int .i64 (m.code.length : Int)) (.int .i64 (m.code.length : Int))).run Tryz.prog w4 = .ok (.slice (some ⟨w4.heap.size, 0, none⟩) m.code.length m.code.length) (w4.alloc (.cells Z 148)) := ⟨_, rfl, make_setsL w4 m.code.length (by omega)⟩
  have hu5 := (Upd.refl [] w4).alloc (.cells Z 148)
  have hm9 := hu5.cell m9 (by simp)
  have hb5 := hu5.heap HB4.out (by simp)
  have hf9 := froz_of hb5 9
  have hz5 := heap_alloc_new w4 (.cells Z 148)
  have HZ := Lib.hid hZ
  clear hZ
  go_upto_region 4 with fail
  have hst := (Upd.refl [mb] (w4.alloc (.cells Z 148))).setCell (p := ⟨mb, 9, none⟩) (.inl (by simp)) (.slice (some ⟨w4.heap.size, 0, none⟩) m.code.length m.code.length)
  have hmlt := lt_of_heap HB4.out
  have HB6 : Hid (((w4.alloc (.cells Z 148)).setCell ⟨mb, 9, none⟩ (.slice (some ⟨w4.heap.size, 0, none⟩) m.code.length m.code.length)).heap[mb]? = some (.cells (mapCells ib k 0 1 m (.slice ka m.code.length kc) (.slice (some ⟨w4.heap.size, 0, none⟩) m.code.length m.code.length)) 147)) := heap_setCell hb5 9 _
  have HL6 := Lib.hid ((LSets.start (w := w4.alloc (.cells Z 148)) (lb := w4.heap.size) (n := m.code.length) (nk := (kindsL m).length) w.heap.size (seenF s) (by rw [hz5, HZ.out])).upd hst (by simp; omega) (fun i _ hs => by simp [upto] at hs))
  have HCO6 := Lib.hid ((HCO4.out.upd hu5).off hst (map_no_ins hb5 (by simp) (by simp)))
  have HI6 := Lib.hid ((HI4.out.keep hu5 (by simp)).keep hst (by simp; omega))
  have HU6 := Lib.hid ((HU4.out.trans (hu5.mono (T := [mb]) (by simp))).trans hst)
  have hlb := HU4.out.size
  clear hst hb5 hz5 hu5 hmk hm9 hf9 f9 m8 m9 HB4 HCO4 HI4 HU4 HZ
  generalize (w4.alloc (.cells Z 148)).setCell ⟨mb, 9, none⟩ (.slice (some ⟨w4.heap.size, 0, none⟩) m.code.length m.code.length) = w6 at HB6 HL6 HCO6 HI6 HU6 ⊢
  generalize w4.heap.size = lb at HB6 HL6 hlb hmlt ⊢
  have m9 : w6.cell? ⟨mb, 9, none⟩ = some (.slice (some ⟨lb, 0, none⟩) m.code.length m.code.length) := by rw [cell_of HB6.out]; rfl
  go_wp2_with fail
  go_loopw [54] (fun iv wr => ∃ (j : Nat) (bk gk : Nat → Nat), j ≤ m.code.length ∧ iv = .int .i64 j ∧ Hid (LSets wr w.heap.size lb m.code.length (kindsL m).length (upto (seenF s) j) (fun _ _ => false) bk gk) ∧ Hid (InfoK W0 wr ib p ss n0 (a0 + j)) ∧ Hid (wr.heap[mb]? = some (.cells (mapCells ib k 0 1 m (.slice ka m.code.length kc) (.slice (some ⟨lb, 0, none⟩) m.code.length m.code.length)) 147)) ∧ Hid (Upd [lb, ib] w6 wr)) (fun iv _ => m.code.length - (intOf iv).toNat)
  case atStart => exact ⟨0, _, _, by omega, rfl, HL6.out, by rw [Int.natCast_zero, Int.add_zero]; exact HI6.out, HB6.out, Upd.refl _ _⟩
  case round =>
    obtain ⟨j, bk, gk, hj, rfl, HL, HI, HB, HU⟩ := hrel
    obtain ⟨wo, rfl⟩ : ∃ wo : World, wo = wr := ⟨_, rfl⟩
    clear m9
    by_cases hlt : j < m.code.length
    · have m0 : wo.cell? ⟨mb, 0, none⟩ = some (.pointer (some ⟨ib, 0, none⟩)) := by rw [cell_of HB.out]; rfl
      have m1 : wo.cell? ⟨mb, 1, none⟩ = some (.int .i64 k) := by rw [cell_of HB.out]; rfl
      have d0 : wo.drew.cell? ⟨mb, 0, none⟩ = some (.pointer (some ⟨ib, 0, none⟩)) := m0
      have d1 : wo.drew.cell? ⟨mb, 1, none⟩ = some (.int .i64 k) := m1
      have HID := Lib.hid (HI.out.keep (Upd.refl [] wo).drew (by simp))
      have HSK := Lib.hid (stack_in2 ib p ss (a0 + j) k (j : Int) wo.drew HID.out.now hl hk (by rw [← HMD.out]; omega) (by omega) (by omega))
      obtain ⟨tv, bv, hav⟩ := atV_form (ss.getD k default) (p.ms.getD k default).code.length (j : Int)
      have HAV := Lib.hid hav
      clear hav
      go_wp2_with fail
      go_region_held3 (fun w' => w'.cell? ⟨mb, 0, none⟩ = some (.pointer (some ⟨ib, 0, none⟩)) ∧ w'.cell? ⟨mb, 1, none⟩ = some (.int .i64 k))
        (first | exact ⟨m0, m1⟩ | exact ⟨d0, d1⟩ | exact ⟨k0, k1⟩ | go_keep)
        ((go_at_call 110; refine HSK.out.mono ?_; rintro e w8 ⟨rfl, _, hu8, hst8⟩; rw [HAV.out]; have k0 := hu8.cell d0 (by simp; exact HMI.out); have k1 := hu8.cell d1 (by simp; exact HMI.out); have HI8 := Lib.hid (HID.out.step hu8 hst8); have HU8 := Lib.hid hu8; clear hu8 hst8))
      rename_i hheld
      clear hheld
      have hbv : bv = seenF s j := by
        have h2 := HAV.out
        unfold atV at h2
        rw [Int.toNat_natCast, ← HMD.out, ← HSD.out] at h2
        unfold seenF
        by_cases hs : s.seen.getD j false = true
        · rw [if_pos ⟨by omega, by omega, hs⟩] at h2
          injection h2 with h2
          simp at h2
          rw [h2.2, hs]
        · rw [if_neg (fun h => hs h.2.2)] at h2
          injection h2 with h2
          simp at h2
          rw [h2.2]
          simpa using hs
      have HBV := Lib.hid hbv
      have hwL : w.heap.size ≤ lb := hlb
      have HL8 := Lib.hid ((HL.out.upd (Upd.refl [] wo).drew (by simp) (by simp)).upd HU8.out (by simp; omega) (fun i hi hs => by have := HL.out.far i hi hs; simp; omega))
      have HB8 := Lib.hid (HU8.out.heap (((Upd.refl [] wo).drew).heap HB.out (by simp)) (by simp; exact HMI.out))
      have HUq : Hid (Upd [lb, ib] w6 w8) := HU.out.drew.trans (HU8.out.mono (T := [lb, ib]) (by simp))
      have HIq : Hid (InfoK W0 w8 ib p ss n0 (a0 + ((j + 1 : Nat) : Int))) := by
        have h3 := HI8.out
        rw [show a0 + (j : Int) + 1 = a0 + ((j + 1 : Nat) : Int) by omega] at h3
        exact h3
      clear hbv HU8 HI8 HL HB HU HI HID HSK HAV k0 k1 d0 d1 m0 m1
      cases bv with
      | false =>
        have HLn := Lib.hid (HL8.out.skip HBV.out.symm)
        go_wp2_with fail
        go_roundw
        case rel => exact ⟨j + 1, bk, gk, by omega, by go_num, HLn.out, HIq.out, HB8.out, HUq.out⟩
        case measure => simp [intOf]; omega
      | true =>
        have c5 : w8.cell? ⟨mb, 5, none⟩ = some (.string m.params) := by rw [cell_of HB8.out]; rfl
        have c6 : w8.cell? ⟨mb, 6, none⟩ = some (.string m.locals) := by rw [cell_of HB8.out]; rfl
        have c7 : w8.cell? ⟨mb, 7, none⟩ = some (.string m.ret) := by rw [cell_of HB8.out]; rfl
        have c8 : w8.cell? ⟨mb, 8, none⟩ = some (.slice ka m.code.length kc) := by rw [cell_of HB8.out]; rfl
        have c9 : w8.cell? ⟨mb, 9, none⟩ = some (.slice (some ⟨lb, 0, none⟩) m.code.length m.code.length) := by rw [cell_of HB8.out]; rfl
        have HK8 := Lib.hid (kinds_any m (.slice ka m.code.length kc) w8.drew (by omega) (by omega))
        have HC8 : Hid (w8.drew.cell? ⟨mb, 5, none⟩ = some (.string m.params) ∧ w8.drew.cell? ⟨mb, 6, none⟩ = some (.string m.locals) ∧ w8.drew.cell? ⟨mb, 7, none⟩ = some (.string m.ret) ∧ w8.drew.cell? ⟨mb, 8, none⟩ = some (.slice ka m.code.length kc) ∧ w8.drew.cell? ⟨mb, 9, none⟩ = some (.slice (some ⟨lb, 0, none⟩) m.code.length m.code.length)) := ⟨c5, c6, c7, c8, c9⟩
        have d9 : w8.drew.cell? ⟨mb, 9, none⟩ = some (.slice (some ⟨lb, 0, none⟩) m.code.length m.code.length) := c9
        have HBS : Hid ((bs (kindsL m)).size = (kindsL m).length) := by show _ = _; rw [bs_size]
        have HNK : Hid ((kindsL m).length ≤ 24) := by
          show _ ≤ _
          unfold kindsL
          rw [List.length_append, ← size_list, ← size_list]
          omega
        have hcl8 := HL8.out.cell j hlt
        have HLD := Lib.hid (HL8.out.upd (Upd.refl [] w8).drew (by simp) (by simp))
        go_upto_region 9 with fail
        go_region_held3 (fun w' => w'.cell? ⟨mb, 5, none⟩ = some (.string m.params) ∧ w'.cell? ⟨mb, 6, none⟩ = some (.string m.locals) ∧ w'.cell? ⟨mb, 7, none⟩ = some (.string m.ret) ∧ w'.cell? ⟨mb, 8, none⟩ = some (.slice ka m.code.length kc) ∧ w'.cell? ⟨mb, 9, none⟩ = some (.slice (some ⟨lb, 0, none⟩) m.code.length m.code.length))
          (first | exact HC8.out | exact HC9.out | exact HC10.out | exact HC11.out _ | go_keep)
          (first
            | (go_at_call 63; refine HK8.out.mono ?_; rintro e w9 ⟨rfl, hu9⟩; have HC9 := Lib.hid (⟨hu9.cell HC8.out.1 (by simp), hu9.cell HC8.out.2.1 (by simp), hu9.cell HC8.out.2.2.1 (by simp), hu9.cell HC8.out.2.2.2.1 (by simp), hu9.cell HC8.out.2.2.2.2 (by simp)⟩ : _ ∧ _ ∧ _ ∧ _ ∧ _); have HU9 := Lib.hid hu9; have HL9 := Lib.hid (HLD.out.upd hu9 (by simp) (by simp)); clear hu9)
            | (go_at_call 92; rw [HBS.out]; refine (bnew (kindsL m).length w9 (by have := HNK.out; omega)).mono ?_; rintro e w10 ⟨rfl, hset, hu10, hsz10⟩; have HC10 := Lib.hid (⟨hu10.cell HC9.out.1 (by simp), hu10.cell HC9.out.2.1 (by simp), hu10.cell HC9.out.2.2.1 (by simp), hu10.cell HC9.out.2.2.2.1 (by simp), hu10.cell HC9.out.2.2.2.2 (by simp)⟩ : _ ∧ _ ∧ _ ∧ _ ∧ _); have HSET := Lib.hid hset; have HL10 := HL9.out.upd hu10 (by simp) (by simp); have z10 := froz_of HL10.tab j; have c10 := HL10.cell j hlt; have HU10 := Lib.hid hu10; have HC11 := Lib.hid (fun v => (⟨((Upd.refl [lb] w10).setCell (p := ⟨lb, j, none⟩) (.inl (by simp)) v).cell HC10.out.1 (by simp; omega), ((Upd.refl [lb] w10).setCell (p := ⟨lb, j, none⟩) (.inl (by simp)) v).cell HC10.out.2.1 (by simp; omega), ((Upd.refl [lb] w10).setCell (p := ⟨lb, j, none⟩) (.inl (by simp)) v).cell HC10.out.2.2.1 (by simp; omega), ((Upd.refl [lb] w10).setCell (p := ⟨lb, j, none⟩) (.inl (by simp)) v).cell HC10.out.2.2.2.1 (by simp; omega), ((Upd.refl [lb] w10).setCell (p := ⟨lb, j, none⟩) (.inl (by simp)) v).cell HC10.out.2.2.2.2 (by simp; omega)⟩ : _ ∧ _ ∧ _ ∧ _ ∧ _)); clear hu10 hset HL10))
        rename_i hheld
        clear hheld HC8 HC9 HC10 HC11 c5 c6 c7 c8 c9 d9 c10 z10 hcl8
        have hs6 := HU6.out.size
        have hsq := HUq.out.size
        have hs9 := HU9.out.size
        have hd8 : w8.drew.heap.size = w8.heap.size := rfl
        have HLn := Lib.hid (HL9.out.new HBV.out.symm hlt HU10.out (by omega) (by omega) (by omega) HSET.out)
        have hA : Upd [] w8 w10 := ((Upd.refl [] w8).drew.trans HU9.out).trans HU10.out
        have hst := (Upd.refl [lb] w10).setCell (p := ⟨lb, j, none⟩) (.inl (by simp)) (.pointer (some ⟨w9.heap.size + 1, 0, none⟩))
        have HBn := Lib.hid (hst.heap (hA.heap HB8.out (by simp)) (by simp; omega))
        have HIn := Lib.hid ((HIq.out.keep hA (by simp)).keep hst (by simp; omega))
        have HUn : Hid (Upd [lb, ib] w6 _) := (HUq.out.trans (hA.mono (T := [lb, ib]) (by simp))).trans (hst.mono (T := [lb, ib]) (by simp))
        clear hA hst HL9 HU9 HU10 HLD HSET HL8 HB8 HUq HIq hd8 hs9 hsq
        generalize w10.setCell ⟨lb, j, none⟩ (.pointer (some ⟨w9.heap.size + 1, 0, none⟩)) = w11 at HLn HBn HIn HUn ⊢
        go_wp2_with fail
        go_roundw
        case rel => exact ⟨j + 1, _, _, by omega, by go_num, HLn.out, HIn.out, HBn.out, HUn.out⟩
        case measure => simp [intOf]; omega
    · obtain rfl : j = m.code.length := by omega
      have hgood := HLK.out k hk
      rw [← HMD.out, ← HSD.out] at hgood
      have hsl := (look_good (by omega) hgood).2.1.seen
      have hup : upto (seenF s) m.code.length = seenF s := by
        funext i
        unfold upto
        by_cases hi : i < m.code.length
        · rw [decide_eq_true hi, Bool.true_and]
        · rw [decide_eq_false hi, Bool.false_and]
          unfold seenF
          rw [List.getD_eq_getElem?_getD, List.getElem?_eq_none (by omega)]
          rfl
      have HSL := Lib.hid hsl
      have HGOOD := Lib.hid hgood
      have hLx := HL.out
      rw [hup] at hLx
      have hs6 := HU6.out.size
      have hTw := HT.out
      have htlt := hTw.lt
      have HUW : Hid (Upd [mb, ib] w wo) := (HU6.out.mono (T := [mb, ib]) (by simp)).trans' HU.out (fun q hq hl => by simp at hq ⊢; omega)
      have HMI2 : Hid (MapIn wo w.heap.size mb lb ib (kindsL m).length k 0 1 m (.slice ka m.code.length kc) (seenF s) (fun _ _ => false) bk gk) :=
        ⟨HB.out, HCO6.out.offs HU.out (fun B hB o x => by
            rcases List.mem_cons.1 hB with rfl | hB
            · exact HL6.out.no_ins o x
            · simp at hB; subst hB; exact HI6.out.now.no_ins o x), hLx, hTw.upd HUW.out (by simp; exact ⟨fun e => HTM.out e.symm, fun e => HTI.out e.symm⟩), rfl, by omega, by omega, by omega, fun pc q hq => by
            have := HOK.out.nexts hk pc
            rw [← HMD.out] at this
            exact this q hq⟩
      have HIX := Lib.hid HI.out
      clear HL HI HB HU HL6 HI6 HB6 HCO6 hup hLx hTw hsl hgood
      go_wp2_with fail
      go_loopw [6] (fun cv wr => ∃ (F : Nat → Nat → Bool) (c : Bool), cv = .bool c ∧ Hid (MapIn wr w.heap.size mb lb ib (kindsL m).length k 0 1 m (.slice ka m.code.length kc) (seenF s) F bk gk) ∧ Hid (SoundF m.code (seenF s) F) ∧ Hid (c = false → ∀ pc, pc < m.code.length → seenF s pc = true → ∀ q, ahF m.code (seenF s) (kindsL m).length F pc q = true → F pc q = true) ∧ Hid (InfoK W0 wr ib p ss n0 (a0 + (m.code.length : Int))) ∧ Hid (Upd [mb, ib] w wr)) (fun cv wr => cntF m.code.length (kindsL m).length (bitW wr lb) + chM cv)
      case atStart => exact ⟨_, true, rfl, HMI2.out, sound_zero _ _, Hid.mk (fun h => by cases h), HIX.out, HUW.out⟩
      case round =>
        obtain ⟨F, c, rfl, HM, HSF, HCF, HI, HU⟩ := hrel
        obtain ⟨wl, rfl⟩ : ∃ wl : World, wl = wr := ⟨_, rfl⟩
        clear HMI2 HIX HUW
        cases c with
        | false =>
          go_wp2_with fail
          go_end0
          refine ⟨rfl, lb, _, F, ⟨bk, gk, HM.out⟩, closed_is (nk := (kindsL m).length) HSF.out (fun pc hs q hq => HCF.out (by trivial) pc (by
              have := HSL.out
              unfold seenF at hs
              refine Decidable.byContradiction fun hc => ?_
              rw [List.getD_eq_getElem?_getD, List.getElem?_eq_none (by omega)] at hs
              cases hs) hs q hq) (fun pc hs h3 => ?_) (fun i hs => ?_) (fun pc _ q hq => HM.out.next pc q hq), HI.out, HU.out⟩
          · have hpc : pc < m.code.length := by
              have := HSL.out
              unfold seenF at hs
              refine Decidable.byContradiction fun hc => ?_
              rw [List.getD_eq_getElem?_getD, List.getElem?_eq_none (by omega)] at hs
              cases hs
            have h4 := HOK.out.load hk (pc := pc) (by rw [← HMD.out]; exact hpc) (by rw [← HMD.out]; exact .inl h3)
            rw [← HMD.out] at h4
            exact h4.2
          · have := HSL.out
            unfold seenF at hs
            refine Decidable.byContradiction fun hc => ?_
            rw [List.getD_eq_getElem?_getD, List.getElem?_eq_none (by omega)] at hs
            cases hs
        | true =>
          have m9 : wl.cell? ⟨mb, 9, none⟩ = some (.slice (some ⟨lb, 0, none⟩) m.code.length m.code.length) := by rw [cell_of HM.out.box]; rfl
          go_wp2_with fail
          go_loopw [6, 7] (fun cv pv wr => ∃ (F2 : Nat → Nat → Bool) (c : Bool) (i : Nat), i ≤ m.code.length ∧ cv = .bool c ∧ pv = .int .i64 ((i : Int) - 1) ∧ Hid (MapIn wr w.heap.size mb lb ib (kindsL m).length k 0 1 m (.slice ka m.code.length kc) (seenF s) F2 bk gk) ∧ Hid (SoundF m.code (seenF s) F2) ∧ Hid (c = false → F2 = F ∧ ∀ pc, i ≤ pc → pc < m.code.length → seenF s pc = true → ∀ q, ahF m.code (seenF s) (kindsL m).length F pc q = true → F pc q = true) ∧ Hid (∀ a q, F a q = true → F2 a q = true) ∧ Hid (c = true → cntF m.code.length (kindsL m).length F2 < cntF m.code.length (kindsL m).length F) ∧ Hid (InfoK W0 wr ib p ss n0 (a0 + (m.code.length : Int))) ∧ Hid (Upd [mb, ib] w wr)) (fun _ pv _ => (intOf pv + 1).toNat)
          case atStart => exact ⟨F, false, m.code.length, by omega, rfl, rfl, HM.out, HSF.out, Hid.mk (fun _ => ⟨rfl, fun pc h1 h2 => absurd h2 (by omega)⟩), Hid.mk (fun _ _ h => h), Hid.mk (fun h => by cases h), HI.out, HU.out⟩
          case round =>
            obtain ⟨F2, c, i, hi, rfl, rfl, HM2, HS2, HC2, HLE2, HCT2, HI2, HU2⟩ := hrel
            obtain ⟨wo2, rfl⟩ : ∃ wo2 : World, wo2 = wr := ⟨_, rfl⟩
            clear HI HU m9
            by_cases h0i : i = 0
            · subst h0i
              go_wp2_with fail
              refine ⟨⟨F2, c, rfl, HM2.out, HS2.out, Hid.mk (fun hc pc hpc hs q hq => ?_), HI2.out, HU2.out⟩, ?_⟩
              · obtain ⟨h1, h2⟩ := HC2.out hc
                rw [h1] at hq ⊢
                exact h2 pc (by omega) hpc hs q hq
              · rw [HM2.out.sets.cnt, HM.out.sets.cnt]
                cases c with
                | true =>
                  have h3 := HCT2.out (by trivial)
                  show _ + 1 < _ + 1
                  omega
                | false =>
                  have h3 := (HC2.out (by trivial)).1
                  rw [h3]
                  show _ + 0 < _ + 1
                  omega
            · obtain ⟨q, rfl⟩ : ∃ q, i = q + 1 := ⟨i - 1, by omega⟩
              rw [show ((q + 1 : Nat) : Int) - 1 = (q : Int) by omega]
              clear h0i
              have m9 : wo2.cell? ⟨mb, 9, none⟩ = some (.slice (some ⟨lb, 0, none⟩) m.code.length m.code.length) := by rw [cell_of HM2.out.box]; rfl
              have hcq := HM2.out.sets.cell q (by omega)
              unfold ptrV at hcq
              have hq2 : q < m.code.length := by omega
              have hq3 : (q : Int) < (m.code.length : Int) := by omega
              by_cases hs : seenF s q = true
              · rw [if_pos hs] at hcq
                have HS := Lib.hid hs
                have d9 : wo2.drew.cell? ⟨mb, 9, none⟩ = some (.slice (some ⟨lb, 0, none⟩) m.code.length m.code.length) := m9
                have dcq : wo2.drew.cell? ⟨lb, q, none⟩ = some (.pointer (some ⟨bk q, 0, none⟩)) := hcq
                have HMD2 := Lib.hid (HM2.out.upd (Upd.refl [] wo2).drew)
                have HAH := Lib.hid (ahead_any w.heap.size mb lb ib (kindsL m).length k 0 1 m (.slice ka m.code.length kc) (seenF s) F2 bk gk q wo2.drew HMD2.out hq2)
                obtain ⟨ws, hws1, hws2⟩ := HM2.out.sets.set q hq2 hs
                have hfar := HM2.out.sets.far q hq2 hs
                have hgl := HM2.out.sets.gs_lb q hq2 hs
                have HWS1 := Lib.hid hws1
                have HWS2 := Lib.hid hws2
                have HGL := Lib.hid hgl
                have HNK : Hid ((kindsL m).length ≤ 24) := HM2.out.nk_le
                have hneg : gk q ≠ mb := by omega
                clear hs hws1 hws2 hgl
                go_upto_region 17 with fail
                go_region_held3 (fun w' => w'.cell? ⟨mb, 9, none⟩ = some (.slice (some ⟨lb, 0, none⟩) m.code.length m.code.length) ∧ w'.cell? ⟨lb, q, none⟩ = some (.pointer (some ⟨bk q, 0, none⟩)))
                  (first | exact ⟨m9, hcq⟩ | exact ⟨d9, dcq⟩ | exact ⟨k9, kcq⟩ | exact ⟨j9, jcq⟩ | go_keep)
                  (first
                    | (go_at_call 111; refine HAH.out.mono ?_; rintro e w3 ⟨ob, og, ows, rfl, oset, oget, hob, hog, hu3⟩; have k9 := hu3.cell d9 (by simp); have kcq := hu3.cell dcq (by simp); have HOS := Lib.hid oset; have HOG := Lib.hid oget; have HM3 := Lib.hid (HMD2.out.upd hu3); have HU3 := Lib.hid hu3; have HWS3 := Lib.hid ((HWS1.out.upd (Upd.refl [] wo2).drew (by simp) (by simp)).upd hu3 (by simp) (by simp)); clear oset oget hu3 hob hog)
                    | (go_at_call 93; refine (bjoin_any (bk q) (gk q) (kindsL m).length ob og (kindsL m).length ws ows w3 HWS3.out HOS.out HM3.out.tz (by omega) (by have := HNK.out; omega)).mono ?_; rintro e w4 ⟨av, ws4, rfl, hs4, hget4, hav1, hav2, hu4⟩; have j9 := hu4.cell k9 (by simp; omega); have jcq := hu4.cell kcq (by simp; exact fun e => HGL.out e.symm); have HS4 := Lib.hid hs4; have HG4 := Lib.hid hget4; have HA1 := Lib.hid hav1; have HA2 := Lib.hid hav2; have HU4 := Lib.hid hu4; clear hs4 hget4 hav1 hav2 hu4))
                rename_i hheld
                clear hheld
                have hget : ∀ x, bhas ws4 x = (F2 q x || ahF m.code (seenF s) (kindsL m).length F2 q x) := fun x => by
                  rw [HG4.out, HWS2.out, HOG.out]
                  cases hx : ahF m.code (seenF s) (kindsL m).length F2 q x with
                  | false => simp
                  | true =>
                    have h7 := HOS.out.2.2.2.2.2 x (by rw [HOG.out]; exact hx)
                    rw [decide_eq_true h7]
                    simp
                have HM4 := Lib.hid (HM3.out.put hq2 HS.out HU4.out HS4.out hmbw (by omega))
                have HS5 := Lib.hid (put_sound HS2.out HS.out hget)
                have hp2 : ∀ a x, F2 a x = true → putF F2 q (bhas ws4) a x = true := putF_le (fun x hx => by rw [hget, hx]; rfl)
                have HLE5 : Hid (∀ a x, F a x = true → putF F2 q (bhas ws4) a x = true) := Hid.mk (fun a x h => hp2 a x (HLE2.out a x h))
                have HI5 := Lib.hid (((HI2.out.keep (Upd.refl [] wo2).drew (by simp)).keep HU3.out (by simp)).keep HU4.out (by simp; omega))
                have HU5 : Hid (Upd [mb, ib] w w4) := ((HU2.out.drew).trans (HU3.out.mono (T := [mb, ib]) (by simp))).trans' HU4.out (fun x hx hl => by simp at hx; omega)
                have HGET := Lib.hid hget
                clear hget hp2 HG4 HM3 HU3 HWS3 HWS1 HMD2 HAH j9 jcq k9 kcq d9 dcq m9 hcq HI2 HU2
                cases av with
                | false =>
                  have hsame : putF F2 q (bhas ws4) = F2 := putF_same (fun x => by rw [HA2.out (by trivial), HWS2.out])
                  rw [hsame] at HM4 HS5
                  have HC5 : Hid (c = false → F2 = F ∧ ∀ pc, q ≤ pc → pc < m.code.length → seenF s pc = true → ∀ q, ahF m.code (seenF s) (kindsL m).length F pc q = true → F pc q = true) := Hid.mk (fun hc => ⟨(HC2.out hc).1, fun pc h1 h2 h3 x hx => by
                    by_cases e : pc = q
                    · subst e
                      have hF := (HC2.out hc).1
                      rw [← hF] at hx ⊢
                      have h8 := HGET.out x
                      rw [HA2.out (by trivial), HWS2.out, hx, Bool.or_true] at h8
                      exact h8
                    · exact (HC2.out hc).2 pc (by omega) h2 h3 x hx⟩)
                  clear hsame
                  go_wp2_with fail
                  go_roundw
                  case rel => exact ⟨F2, c, q, by omega, rfl, by go_num, HM4.out, HS5.out, HC5.out, HLE2.out, HCT2.out, HI5.out, HU5.out⟩
                  case measure => simp [intOf]
                | true =>
                  have HCT5 : Hid (true = true → cntF m.code.length (kindsL m).length (putF F2 q (bhas ws4)) < cntF m.code.length (kindsL m).length F) := Hid.mk (fun _ => by
                    obtain ⟨x, hx1, hx2⟩ := HA1.out (by trivial)
                    have hxn := HS4.out.2.2.2.2.2 x hx1
                    refine cntF_lt HLE5.out hq2 hxn (by unfold putF; rw [if_pos rfl]; exact hx1) ?_
                    rw [HWS2.out] at hx2
                    cases hF : F q x with
                    | false => rfl
                    | true => rw [HLE2.out q x hF] at hx2; cases hx2)
                  go_wp2_with fail
                  go_roundw
                  case rel => exact ⟨_, true, q, by omega, rfl, by go_num, HM4.out, HS5.out, Hid.mk (fun h => by cases h), HLE5.out, HCT5.out, HI5.out, HU5.out⟩
                  case measure => simp [intOf]
              · rw [if_neg hs] at hcq
                have HC9 : Hid (c = false → F2 = F ∧ ∀ pc, q ≤ pc → pc < m.code.length → seenF s pc = true → ∀ q, ahF m.code (seenF s) (kindsL m).length F pc q = true → F pc q = true) := Hid.mk (fun hc => ⟨(HC2.out hc).1, fun pc h1 h2 h3 => by
                  by_cases e : pc = q
                  · subst e; exact absurd h3 hs
                  · exact (HC2.out hc).2 pc (by omega) h2 h3⟩)
                have HM9 := fun n => Lib.hid (HM2.out.upd ((Upd.refl [] wo2).drewN n))
                have HI9 := fun n => Lib.hid (HI2.out.keep ((Upd.refl [] wo2).drewN n) (by simp))
                clear hq3 hs
                go_upto_region 17 with fail
                go_quiet (fail)
                go_wp2_with fail
                go_roundw
                case rel => exact ⟨F2, c, q, by omega, rfl, by go_num, (HM9 _).out, HS2.out, HC9.out, HLE2.out, HCT2.out, (HI9 _).out, HU2.out.drewN _⟩
                case measure => simp [intOf]
end Go.Proofs.YtpmfbhoochogoaaGreatDoor
