/- overdriveref.Program: a copy of a program. -/
import Derived.Test.YtpmfbhoochogoaaDoorMtsW
/-! overdriveref.Program: a copy of a program. -/
namespace Go.Proofs.YtpmfbhoochogoaaDoor
open Go.RowKit

theorem Rise.base {w : World} {B B' : Nat} {vs : List Value} (h : Rise w B vs) (hB : B' ≤ B) : Rise w B' vs :=
  ⟨fun i hi b hb => by obtain ⟨h1, h2⟩ := h.at_ i hi b hb; exact ⟨by omega, h2⟩, h.lt⟩
theorem OwnM.base {w : World} {B B' : Nat} {v : Value} {ms : List Meth} {vs : List Value} (h : OwnM w B v ms vs) (hB : B' ≤ B) : OwnM w B' v ms vs :=
  ⟨⟨h.row.1, h.row.2.imp (fun x => x) (fun ⟨g, c, cur, h1, h2, h3⟩ => ⟨g, c, cur, h1, by omega, h3⟩)⟩, h.len, h.code⟩

set_option maxRecDepth 100000 in
set_option maxHeartbeats 4000000 in
theorem program_any (p : Prg) (cv mv : Value) (w : World) (hc : ClassAt w cv p.cs) (hm : MethsAt w mv p.ms) (hn : p.ms.length ≤ 1000) (hn2 : p.cs.length ≤ 1000) (hk : ∀ j, j < p.ms.length → (p.ms.getD j default).code.length ≤ 1000) (hbd : ∀ j, j < p.ms.length → ∀ i, i < (p.ms.getD j default).code.length → ((p.ms.getD j default).code.getD i default).bd) :
    Calls Tryd.prog 9 #[.agg #[cv, mv]] w fun e w' => ∃ cu mu vs, e = .returned (.agg #[cu, mu]) ∧ OwnK w' (w.heap.size + 2) cu p.cs ∧ OwnM w' (w.heap.size + 2) mu p.ms vs ∧ Rise w' (w.heap.size + 2) vs ∧ Upd [] w w' := by
  obtain ⟨ca, cc, rfl, hc1⟩ := hc
  obtain ⟨ma, mc, rfl, hm1⟩ := hm
  have HC : Hid (ClassAt w (.slice ca p.cs.length cc) p.cs) := ⟨ca, cc, rfl, hc1⟩
  have HM : Hid (MethsAt w (.slice ma p.ms.length mc) p.ms) := ⟨ma, mc, rfl, hm1⟩
  have HKK := Lib.hid hk
  have HBD := Lib.hid hbd
  clear hc1 hm1 hk hbd
  go_enter Tryd.func9, Tryd.ntmps9
  go_upto_region 1 with fail
  have hA := ((Upd.refl [] _).alloc (.cells #[.slice none 0 0, .slice none 0 0] 25)).heap (heap_alloc_new w (.cells #[.slice ca p.cs.length cc, .slice ma p.ms.length mc] 25)) (by simp)
  have hu := ((Upd.refl [] w).alloc (.cells #[.slice ca p.cs.length cc, .slice ma p.ms.length mc] 25)).alloc (.cells #[.slice none 0 0, .slice none 0 0] 25)
  have hB := heap_alloc_new (w.alloc (.cells #[.slice ca p.cs.length cc, .slice ma p.ms.length mc] 25)) (.cells #[.slice none 0 0, .slice none 0 0] 25)
  rw [show (w.alloc (.cells #[.slice ca p.cs.length cc, .slice ma p.ms.length mc] 25)).heap.size = w.heap.size + 1 by simp] at hB
  have HC2 := Lib.hid (HC.out.upd hu)
  have HM2 := Lib.hid (HM.out.upd hu)
  have HU := Lib.hid hu
  have HSZ : Hid (((w.alloc (.cells #[.slice ca p.cs.length cc, .slice ma p.ms.length mc] 25)).alloc (.cells #[.slice none 0 0, .slice none 0 0] 25)).heap.size = w.heap.size + 2) := by show _ = _; simp
  clear hu
  generalize (w.alloc (.cells #[.slice ca p.cs.length cc, .slice ma p.ms.length mc] 25)).alloc (.cells #[.slice none 0 0, .slice none 0 0] 25) = w2 at hA hB HC2 HM2 HU HSZ ⊢
  obtain ⟨B, hBe⟩ : ∃ B, B = w.heap.size := ⟨_, rfl⟩
  rw [← hBe] at hA hB HSZ ⊢
  have HBE := Lib.hid hBe
  clear hBe
  have b0 : w2.cell? ⟨B, 0, none⟩ = some (.slice ca p.cs.length cc) := by rw [cell_of hA]; rfl
  have b1 : w2.cell? ⟨B, 1, none⟩ = some (.slice ma p.ms.length mc) := by rw [cell_of hA]; rfl
  have d0 : w2.drew.cell? ⟨B, 0, none⟩ = some (.slice ca p.cs.length cc) := b0
  have d1 : w2.drew.cell? ⟨B, 1, none⟩ = some (.slice ma p.ms.length mc) := b1
  clear hA
  have HK := Lib.hid (classes_any (.slice ca p.cs.length cc) p.cs w2.drew (HC2.out.upd (Upd.refl [] w2).drew) hn2)
  have HN : Hid (w2.drew.heap[B + 1]? = some (.cells #[.slice none 0 0, .slice none 0 0] 25)) := hB
  have HM3 := Lib.hid (HM2.out.upd (Upd.refl [] w2).drew)
  clear hB
  go_region_held3 (fun w' => (w'.cell? ⟨B, 0, none⟩ = some (.slice ca p.cs.length cc) ∧ w'.cell? ⟨B, 1, none⟩ = some (.slice ma p.ms.length mc)))
    (first | exact ⟨k0, k1⟩ | exact ⟨e0, e1⟩ | exact ⟨d0, d1⟩ | exact ⟨b0, b1⟩ | go_keep)
    (first
      | (go_at_call 31; refine HK.out.mono ?_; rintro e w3 ⟨u, rfl, hx3, hu3⟩; obtain ⟨up, uc, rfl⟩ := hx3.shape; have HN3 := Lib.hid (hu3.heap HN.out (by simp)); have e0 := hu3.cell d0 (by simp); have e1 := hu3.cell d1 (by simp); have HX3 := Lib.hid hx3; have HM4 := Lib.hid (HM3.out.upd hu3); have HU3 := Lib.hid hu3; clear hx3 hu3)
      | (go_at_call 32; refine (methods_any _ _ _ HM4.out hn HKK.out HBD.out).mono ?_; rintro e w5 ⟨mu, vs, rfl, hx5, hr5, hu5⟩; obtain ⟨mp, mcc, rfl⟩ := hx5.shape; have hc5 := hu5.heap HN3.out (by simp); have k0 := hu5.cell e0 (by simp); have k1 := hu5.cell e1 (by simp); have f0 := froz_of hc5 0; have f1 := froz_of hc5 1; have g0 : w5.cell? ⟨B + 1, 0, none⟩ = some (.slice none 0 0) := (by rw [cell_of hc5]; rfl); have g1 : w5.cell? ⟨B + 1, 1, none⟩ = some (.slice none 0 0) := (by rw [cell_of hc5]; rfl); have HX5 := Lib.hid hx5; have HR5 := Lib.hid hr5; have HU5 := Lib.hid hu5; have HC5 := Lib.hid hc5; clear hx5 hr5 hu5 hc5))
  rename_i hheld
  clear hheld
  have k4 := heap_setCell HC5.out 0 (.slice up p.cs.length uc)
  have k7 := heap_setCell k4 1 (.slice mp p.ms.length mcc)
  have hu7 : Upd [B + 1] w5 ((w5.setCell ⟨B + 1, 0, none⟩ (.slice up p.cs.length uc)).setCell ⟨B + 1, 1, none⟩ (.slice mp p.ms.length mcc)) :=
    ((Upd.refl _ w5).setCell (.inl (by simp)) _).setCell (.inl (by simp)) _
  clear k4 HC5 HN3 HN e0 e1 f0 f1 g0 g1 b0 b1 d0 d1 k0 k1
  generalize ((w5.setCell ⟨B + 1, 0, none⟩ (.slice up p.cs.length uc)).setCell ⟨B + 1, 1, none⟩ (.slice mp p.ms.length mcc)) = w7 at k7 hu7 ⊢
  have c0 : w7.cell? ⟨B + 1, 0, none⟩ = some (.slice up p.cs.length uc) := by rw [cell_of k7]; rfl
  have c1 : w7.cell? ⟨B + 1, 1, none⟩ = some (.slice mp p.ms.length mcc) := by rw [cell_of k7]; rfl
  have HU7 := Lib.hid hu7
  clear k7 hu7
  go_wp2_with fail
  refine bodyPost_ret (v := .agg #[.slice up p.cs.length uc, .slice mp p.ms.length mcc]) (by simp [results, Tryd.results9, go_sem, c0, c1]) rfl ?_
  have hds : w2.drew.heap.size = B + 2 := HSZ.out
  have h3s := HU3.out.size
  have hx := HX3.out.upd HU5.out
  rw [hds] at hx
  have hx5 := HX5.out.base (B' := B + 2) (by omega)
  have hr5 := HR5.out.base (B' := B + 2) (by omega)
  refine ⟨_, _, vs, rfl, ?_, ?_, ?_, ?_⟩
  · rw [← HBE.out]
    exact row_upd hx HU7.out (fun q hq hm => by
      have h1 := (OwnK.lt hx q hq).1
      have h2 : q = B + 1 := by simpa using hm
      omega)
  · rw [← HBE.out]
    exact hx5.updT HU7.out (fun q hq hm => by
      have h1 := (hx5.blk q hq).1
      have h2 : q = B + 1 := by simpa using hm
      omega) (fun i hi b hb hm => by
      have h1 := (hr5.at_ i (by rw [hx5.len]; exact hi) b hb).1
      have h2 : b = B + 1 := by simpa using hm
      omega)
  · rw [← HBE.out]
    exact hr5.upd HU7.out (fun b _ h1 _ h2 => by simp at h2; omega)
  · have hA := ((HU.out.drew).trans HU3.out).trans HU5.out
    have hb := HBE.out
    exact hA.trans' HU7.out (fun q hq hl => by
      have h2 : q = B + 1 := by simpa using hq
      omega)
end Go.Proofs.YtpmfbhoochogoaaDoor
