/- The mover's memory; mover.move. mover.move: the walk. -/
import Derived.Test.YtneeljhjfmcdoaaDoorMvS
import Derived.Test.YtneeljhjfmcdoaaDoorJoinB
import Derived.Test.YtneeljhjfmcdoaaDoorAny
import Derived.Deep.AppendSrc
/-! The mover's memory; mover.move. -/
namespace Go.Proofs.YtneeljhjfmcdoaaDoor
open Go.RowKit

/-- Blocks below B, but those of S, are as they were. -/
structure UpB (B : Nat) (S : List Nat) (w w' : World) : Prop where
  os : w'.os = w.os
  tape : w'.tape = w.tape
  output : w'.output = w.output
  size : w.heap.size ≤ w'.heap.size
  block : ∀ k, k < w.heap.size → k < B → k ∉ S → w'.heap[k]? = w.heap[k]?
theorem UpB.refl (B : Nat) (S : List Nat) (w : World) : UpB B S w w := ⟨rfl, rfl, rfl, Nat.le_refl _, fun _ _ _ _ => rfl⟩
theorem UpB.trans {B : Nat} {S : List Nat} {a b c : World} (h : UpB B S a b) (k : UpB B S b c) : UpB B S a c :=
  ⟨k.os.trans h.os, k.tape.trans h.tape, k.output.trans h.output, Nat.le_trans h.size k.size, fun i hi hB hs => (k.block i (Nat.lt_of_lt_of_le hi h.size) hB hs).trans (h.block i hi hB hs)⟩
theorem Upd.upB {B : Nat} {S T : List Nat} {w w' : World} (h : Upd T w w') (hT : ∀ k ∈ T, k < B → k ∈ S) : UpB B S w w' :=
  ⟨h.os, h.tape, h.output, h.size, fun k hk hB hs => h.block k hk (fun hm => hs (hT k hm hB))⟩
theorem UpB.mono {B : Nat} {S T : List Nat} {w w' : World} (h : UpB B S w w') (hT : ∀ k ∈ S, k < B → k ∈ T) : UpB B T w w' :=
  ⟨h.os, h.tape, h.output, h.size, fun k hk hB hs => h.block k hk hB (fun hm => hs (hT k hm hB))⟩
theorem UpB.heap {B : Nat} {S : List Nat} {w w' : World} (h : UpB B S w w') {k : Nat} {o : Obj} (hk : w.heap[k]? = some o) (hB : k < B) (hs : k ∉ S) : w'.heap[k]? = some o := by
  rw [h.block k (lt_of_heap hk) hB hs]; exact hk
theorem UpB.cell {B : Nat} {S : List Nat} {w w' : World} (h : UpB B S w w') {p : Addr} {v : Value} (hp : w.cell? p = some v) (hB : p.block < B) (hs : p.block ∉ S) : w'.cell? p = some v := by
  rw [World.cell?_of_block (h.block p.block (World.block_lt_of_cell? w p hp) hB hs)]; exact hp
theorem UpB.upd {B : Nat} {S T : List Nat} {w0 w w' : World} (h0 : Upd T w0 w) (h : UpB B S w w') (hB : w0.heap.size ≤ B) (hS : ∀ k ∈ S, k < w0.heap.size → k ∈ T) : Upd T w0 w' :=
  ⟨h.os.trans h0.os, h.tape.trans h0.tape, h.output.trans h0.output, Nat.le_trans h0.size h.size, fun k hk hs => (h.block k (Nat.lt_of_lt_of_le hk h0.size) (by omega) (fun hm => hs (hS k hm hk))).trans (h0.block k hk hs)⟩

/-- Space k in the midst. -/
def Cx.spM (X : Cx) (M : Mv) (k : Nat) : Spc := if k = X.tk then { X.S.sp k with top := M.top } else X.S.sp k
/-- The heap in the midst. -/
def Cx.mid (X : Cx) (M : Mv) : Hp := { cs := X.S.cs, A := M.A, y := X.spM M 0, h0 := X.spM M 1, h1 := X.spM M 2, now := X.S.now, bg := X.S.bg, mr := X.S.mr }
theorem mid_sp (X : Cx) (M : Mv) (k : Nat) (hk : k < 3) : (X.mid M).sp k = X.spM M k := by
  match k, hk with
  | 0, _ => rfl
  | 1, _ => rfl
  | 2, _ => rfl
section
variable {X : Cx} {Lv : List Int} {sc : Int → Nat → Bool} {M : Mv}
/-- The first word of each object is what it was. -/
theorem Mv.Ok.head (hX : X.Ok) (h : M.Ok X Lv sc) {a : Int} (ha : X.S.is a = true) : M.A.getD (a - 1).toNat 0 = X.S.A.getD (a - 1).toNat 0 := by
  cases hf : X.frm a with
  | false => exact (h.img a a (.inr ⟨ha, hf, rfl⟩)).1
  | true =>
    by_cases hm : a ∈ M.mv.map Prod.fst
    · exact (h.mvd _ _ (fwL_some hm)).2
    · have := hX.ok.le ha
      exact h.unm a hf hm _ (Int.le_refl _) (by omega)
theorem mid_num (hX : X.Ok) (h : M.Ok X Lv sc) {a : Int} (ha : X.S.is a = true) : (X.mid M).num a = X.S.num a ∧ (X.mid M).cls a = X.S.cls a := by
  have e := h.head hX ha
  have e1 : (X.mid M).num a = unN (M.A.getD (a - 1).toNat 0) := rfl
  have e2 : (X.mid M).cls a = unC (M.A.getD (a - 1).toNat 0) := rfl
  rw [e1, e2, e]
  exact ⟨rfl, rfl⟩
theorem mid_is (X : Cx) (M : Mv) (a : Int) : (X.mid M).is a = X.S.is a := rfl
theorem mid_inY (hX : X.Ok) (M : Mv) (a : Int) : (X.mid M).inY a = X.S.inY a := by
  have e : (X.mid M).y = X.S.y := by
    show X.spM M 0 = X.S.y
    unfold Cx.spM
    rw [if_neg (fun e => hX.k0 e.symm)]; rfl
  unfold Hp.inY
  rw [e, mid_is]
theorem spM_bd (hX : X.Ok) (h : M.Ok X Lv sc) (k : Nat) : (X.spM M k).fr = (X.S.sp k).fr ∧ (X.spM M k).to = (X.S.sp k).to ∧ (X.S.sp k).top ≤ (X.spM M k).top ∧ (X.spM M k).top ≤ (X.S.sp k).to := by
  have h1 := hX.ok.sp0 k
  have h2 := h.tp
  have h3 := h.low
  unfold Cx.spM
  by_cases hk : k = X.tk
  · subst hk
    rw [if_pos rfl]
    unfold Cx.T0 at h3
    unfold Cx.tp at h2
    exact ⟨rfl, rfl, h3, h2⟩
  · rw [if_neg hk]
    exact ⟨rfl, rfl, Int.le_refl _, h1.2.2.1⟩
theorem mid_ok (hX : X.Ok) (h : M.Ok X Lv sc) : (X.mid M).Ok := by
  have hS := hX.ok
  have b0 := spM_bd hX h 0
  have b1 := spM_bd hX h 1
  have b2 := spM_bd hX h 2
  have s0 := hS.sp0 0
  have s1 := hS.sp0 1
  have s2 := hS.sp0 2
  have a0 := hS.a0
  have a1 := hS.b0
  have a2 := hS.b3
  have e0 : X.S.sp 0 = X.S.y := rfl
  have e1 : X.S.sp 1 = X.S.h0 := rfl
  have e2 : X.S.sp 2 = X.S.h1 := rfl
  have head : ∀ x : Nat, bhas X.S.bg x = true → M.A.getD x 0 = X.S.A.getD x 0 := by
    intro x hx
    have := h.head hX (a := (x : Int) + 1) (by unfold Hp.is; rw [decide_eq_true (by omega), show ((x : Int) + 1 - 1).toNat = x by omega]; exact hx)
    rwa [show ((x : Int) + 1 - 1).toNat = x by omega] at this
  refine ⟨by show M.A.length ≤ _; rw [h.len]; exact hS.len, hS.few, hS.small, hS.now, ?_, ?_, ?_, ?_, ?_, ?_, ?_, ?_, ?_, ?_, ?_, ?_, ?_⟩
  · show 0 ≤ (X.spM M 0).fr; omega
  · show (X.spM M 0).fr ≤ (X.spM M 0).top; omega
  · show (X.spM M 0).top ≤ (X.spM M 0).to; omega
  · show (X.spM M 0).to ≤ (X.spM M 1).fr; rw [b0.2.1, b1.1, e0, e1]; exact a0
  · show (X.spM M 1).fr ≤ (X.spM M 1).top; omega
  · show (X.spM M 1).top ≤ (X.spM M 1).to; omega
  · show (X.spM M 1).to ≤ (X.spM M 2).fr; rw [b1.2.1, b2.1, e1, e2]; exact a1
  · show (X.spM M 2).fr ≤ (X.spM M 2).top; omega
  · show (X.spM M 2).top ≤ (X.spM M 2).to; omega
  · show (X.spM M 2).to ≤ (M.A.length : Int); rw [b2.2.1, h.len, e2]; exact a2
  · intro x hx
    have q := hS.heads x hx
    unfold Hp.headAt at q ⊢
    have e : (X.mid M).A.getD x 0 = X.S.A.getD x 0 := head x hx
    have el : (X.mid M).A.length = X.S.A.length := h.len
    rw [e, el]
    exact q
  · intro x hx
    obtain ⟨k, hk, u1, u2⟩ := hS.used x hx
    have b := spM_bd hX h k
    refine ⟨k, hk, ?_, ?_⟩
    · rw [mid_sp _ _ _ hk, b.1]; exact u1
    · rw [mid_sp _ _ _ hk]
      have e : (X.mid M).A.getD x 0 = X.S.A.getD x 0 := head x hx
      rw [e]; omega
  · intro x y hx hy hlt
    have e : (X.mid M).A.getD x 0 = X.S.A.getD x 0 := head x hx
    rw [e]
    exact hS.disj x y hx hy hlt
end

/-- The mover's memory. -/
structure MvAt (w : World) (L : HL) (cv mv : Value) (X : Cx) (M : Mv) (q fb fg : Nat) (wv : Value) (B : Nat) (fr : List Nat) : Prop where
  hp : HpAt w L cv mv (X.mid M)
  mb : w.heap[q]? = some (.cells #[.pointer (some ⟨L.hb, 0, none⟩), .bool X.all, .pointer (some ⟨L.hb, 3 + 3 * X.tk, none⟩), .pointer (some ⟨fb, 0, none⟩), wv] 130)
  fs : SetAt w fb fg X.S.A.length fr
  fx : ∀ x : Nat, bhas fr x = true ↔ ∃ a, (a, (x : Int) + 1) ∈ M.mv
  wk : OwnI w B 3 wv M.work
  lo : ∀ i ∈ L.all, i < B
  qB : q < B ∧ fb < B ∧ fg < B
  ne : q ∉ L.all ∧ fb ∉ L.all ∧ fg ∉ L.all ∧ q ≠ fb ∧ q ≠ fg

/-- There is room for all that may be moved. -/
def Cx.Room (X : Cx) (Lv : List Int) : Prop := X.T0 + sumW X.S Lv ≤ X.tp
theorem Mv.Ok.room {X : Cx} {Lv : List Int} {sc : Int → Nat → Bool} {M : Mv} (h : M.Ok X Lv sc) (hR : X.Room Lv) {r : Int} (hr : r ∈ Lv) (hno : r ∉ M.mv.map Prod.fst) : M.top + X.S.wd r ≤ X.tp := by
  have h1 := sumW_le X.S (l := M.mv.map Prod.fst ++ [r]) (L := Lv) (by
    rw [List.nodup_append]
    exact ⟨h.nd, by simp, fun a ha b hb e => by simp at hb; exact hno (hb ▸ e ▸ ha)⟩) (fun a ha => by
    rcases List.mem_append.1 ha with ha | ha
    · obtain ⟨p, hp, rfl⟩ := List.mem_map.1 ha
      exact (h.frm p.1 p.2 hp).2
    · simp at ha; rw [ha]; exact hr)
  rw [sumW_app] at h1
  have h2 := h.top
  unfold Cx.Room at hR
  simp only [sumW] at h1
  omega
end Go.Proofs.YtneeljhjfmcdoaaDoor

/-! mover.move: the walk. -/
namespace Go.Proofs.YtneeljhjfmcdoaaDoor
open Go.RowKit

/-- What a move leaves. -/
structure Moved (w w' : World) (L : HL) (cv mv : Value) (X : Cx) (Lv : List Int) (sc : Int → Nat → Bool) (M M' : Mv) (r : Int) (q fb fg : Nat) (wv wv' : Value) (B : Nat) (fr' : List Nat) : Prop where
  at_ : MvAt w' L cv mv X M' q fb fg wv' B fr'
  ok : M'.Ok X Lv sc
  gone : X.frm r = true → r ∈ M'.mv.map Prod.fst
  step : M' = M ∨ (X.frm r = true ∧ r ∉ M.mv.map Prod.fst ∧ M' = M.new X r)
  up : UpB B [L.hb, L.wb, q, fg] w w'
  upo : Upd ([L.hb, L.wb, q, fg] ++ wv.ownBlock.toList) w w'
  own : wv'.ownBlock = wv.ownBlock ∨ ∃ k, wv'.ownBlock = some k ∧ w.heap.size ≤ k

theorem fw_stay {X : Cx} {Lv : List Int} {sc : Int → Nat → Bool} {M : Mv} (h : M.Ok X Lv sc) {r : Int} (hf : X.frm r = false) : fwL M.mv r = r := fwL_not (fun hmem => by
  obtain ⟨p, hp, e⟩ := List.mem_map.1 hmem
  have := (h.frm p.1 p.2 hp).1
  rw [e, hf] at this; cases this)

theorem hcells_new (cv mv : Value) (L : HL) (X : Cx) (M : Mv) (r : Int) (hk : X.tk = 1 ∨ X.tk = 2) : (hcells cv mv L (X.mid M)).setIfInBounds (3 + 3 * X.tk + 2) (.int .i64 (M.top + X.S.wd r)) = hcells cv mv L (X.mid (M.new X r)) := by
  unfold hcells
  rcases hk with e | e <;> simp [Cx.mid, Cx.spM, e, Mv.new]
theorem cell_one_newM (w : World) (v : Value) (t : TypeId) : ∀ j u, [v][j]? = some u → (w.alloc (.cells #[v] t)).cell? ((⟨w.heap.size, 0, none⟩ : Addr).add j) = some u := by
  intro j u hj
  rw [Addr.add_lit, Nat.zero_add, cell_of (heap_alloc_new w _)]
  simpa using hj

set_option maxRecDepth 100000 in
set_option maxHeartbeats 4000000 in
theorem move_any (L : HL) (cv mv : Value) (X : Cx) (Lv : List Int) (sc : Int → Nat → Bool) (M : Mv) (q fb fg : Nat) (wv : Value) (B : Nat) (fr : List Nat) (r : Int) (w : World)
    (hX : X.Ok) (hR : X.Room Lv) (hM : M.Ok X Lv sc) (h : MvAt w L cv mv X M q fb fg wv B fr) (hb : r ≤ 9223372036854775807) (hl : X.frm r = true → r ∈ Lv) (hB : B ≤ w.heap.size) (hw : M.work.length ≤ 65536) :
    Calls Tryd.prog 76 #[.pointer (some ⟨q, 0, none⟩), .int .i64 r] w fun e w' => ∃ M' wv' fr', e = .returned (.int .i64 (fwL M'.mv r)) ∧ Moved w w' L cv mv X Lv sc M M' r q fb fg wv wv' B fr' := by
  have q0 : w.cell? ⟨q, 0, none⟩ = some (.pointer (some ⟨L.hb, 0, none⟩)) := by rw [cell_of h.mb]; rfl
  have q1 : w.cell? ⟨q, 1, none⟩ = some (.bool X.all) := by rw [cell_of h.mb]; rfl
  have q2 : w.cell? ⟨q, 2, none⟩ = some (.pointer (some ⟨L.hb, 3 + 3 * X.tk, none⟩)) := by rw [cell_of h.mb]; rfl
  have HIS := Lib.hid (is_any L cv mv (X.mid M) r w h.hp hb)
  have HIY := Lib.hid (inYoung_any L cv mv (X.mid M) r w h.hp hb)
  rw [mid_inY hX] at HIY
  rw [mid_is] at HIS
  have H := Lib.hid h
  have HL' := Lib.hid hl
  have HSTAY : Hid (X.frm r = false → ∃ M' wv' fr', Ending.returned (.int .i64 r) = .returned (.int .i64 (fwL M'.mv r)) ∧ Moved w w L cv mv X Lv sc M M' r q fb fg wv wv' B fr') := fun hf =>
    ⟨M, wv, fr, by rw [fw_stay hM hf], h, hM, fun hf2 => (by rw [hf] at hf2; cases hf2), .inl rfl, UpB.refl _ _ _, Upd.refl _ _, .inl rfl⟩
  clear h hl
  cases his : X.S.is r with
  | false =>
    have HF : Hid (X.frm r = false) := by show _ = _; unfold Cx.frm; rw [his]; rfl
    rw [his] at HIS
    clear his
    go_enter Tryd.func76, Tryd.ntmps76
    go_wp2_with fail
    refine HIS.out.mono ?_
    rintro e w' ⟨rfl, rfl⟩
    go_wp2_with fail
    go_ret
    exact HSTAY.out HF.out
  | true =>
  cases hall : X.frm r with
  | false =>
    have h0 := hall
    unfold Cx.frm at h0
    rw [his, Bool.true_and, Bool.or_eq_false_iff] at h0
    have HF := Lib.hid hall
    rw [his] at HIS
    rw [h0.1] at q1
    rw [h0.2] at HIY
    clear his hall h0
    go_enter Tryd.func76, Tryd.ntmps76
    go_wp2_with fail
    refine HIS.out.mono ?_
    rintro e w' ⟨rfl, rfl⟩
    go_wp2_with fail
    refine HIY.out.mono ?_
    rintro e w' ⟨rfl, rfl⟩
    go_wp2_with fail
    go_ret
    exact HSTAY.out HF.out
  | true =>
  have hle := hX.ok.le his
  have hlen := hM.len
  have hlen2 := hX.ok.len
  have hnum := mid_num hX hM his
  have HNUM := Lib.hid hnum.1
  have h2 : w.cell? ⟨L.hb, 2, none⟩ = some (.pointer (some ⟨L.ab, 0, none⟩)) := H.out.hp.c2
  have HAR := Lib.hid H.out.hp.ar
  have HLOAD : Hid (∀ i, i = r → Calls Tryd.prog 42 #[.pointer (some ⟨L.ab, 0, none⟩), .int .i64 i] w fun e w' => e = .returned (.tuple #[.int .i64 (M.A.getD r.toNat 0), .bool true]) ∧ w = w') := fun i hi => by
    rw [hi]
    exact load_in L.ab L.wb M.A r w HAR.out (by omega) (by omega)
  have HF := Lib.hid hall
  have hgo : (X.all || X.S.inY r) = true := by
    have h0 := hall
    unfold Cx.frm at h0
    rwa [his, Bool.true_and] at h0
  have HIS0 := Lib.hid his
  rw [his] at HIS
  simp only [if_true] at HIS
  rw [hnum.1, hnum.2] at HIS
  clear hnum his hall
  go_enter Tryd.func76, Tryd.ntmps76
  go_wp2_with fail
  refine HIS.out.mono ?_
  rintro e w' ⟨rfl, rfl⟩
  go_upto_region 3 with fail
  go_cut [39] from 25 to 38 (fun tv wx => Hid (tv = .bool false ∧ w = wx))
  case first =>
    cases ha : X.all with
    | true =>
      rw [ha] at q1
      clear hgo
      go_wp2_with fail
      go_meet
      exact ⟨rfl, rfl⟩
    | false =>
      rw [ha] at q1
      rw [ha, Bool.false_or] at hgo
      rw [hgo] at HIY
      clear hgo
      go_wp2_with fail
      refine HIY.out.mono ?_
      rintro e w' ⟨rfl, rfl⟩
      go_wp2_with fail
      go_meet
      exact ⟨rfl, rfl⟩
  case rest =>
    obtain ⟨rfl, rfl⟩ := hcut.out
    clear hgo HIY
    go_wp2_with fail
    refine (HLOAD.out _ (by omega)).mono ?_
    rintro e w' ⟨rfl, rfl⟩
    by_cases hm : r ∈ M.mv.map Prod.fst
    · have hp := fwL_some hm
      have hv := (hM.mvd _ _ hp).1
      have hbd := (hM.bd _ _ hp).1
      have ht0 : 0 ≤ X.T0 := by have := hX.ok.sp0 X.tk; unfold Cx.T0; omega
      have d0 : (fwL M.mv r != 0) = true := by rw [bne_iff_ne]; omega
      have hw64 := hM.fwWide hX r ⟨by omega, by omega⟩
      have HM0 := Lib.hid hm
      rw [hv]
      clear hv hp hbd hm
      go_wp2_with fail
      go_ret
      exact ⟨M, wv, fr, rfl, H.out, hM, fun _ => HM0.out, .inl rfl, UpB.refl _ _ _, Upd.refl _ _, .inl rfl⟩
    · have hv : M.A.getD r.toNat 0 = 0 := by
        rw [hM.unm r HF.out hm r (by omega) (by have : 0 ≤ X.S.num r := unN_nonneg _; omega)]
        exact hX.zero r HIS0.out
      have HM0 := Lib.hid hm
      rw [hv]
      clear hv hm
      have hll := HL'.out HF.out
      have hroom := hM.room hR hll HM0.out
      have hn0 : 0 ≤ X.S.num r := unN_nonneg _
      have hnum2 := hle.2.2.2.1
      have htk := hX.k3
      have htk0 := hX.k0
      have hsp := hX.ok.sp0 X.tk
      have hlow := hM.low
      have htp := hM.tp
      obtain ⟨e0, e1, e2⟩ := sp_cells H.out.hp.hb X.tk htk
      have HWD : Hid (X.S.wd r = 2 + X.S.num r) := rfl
      have hroom2 : M.top + (2 + X.S.num r) ≤ X.tp := by have := HWD.out; omega
      rw [mid_sp _ _ _ htk] at e0 e1 e2
      unfold Cx.spM at e0 e1 e2
      rw [if_pos rfl] at e0 e1 e2
      have hT0 : X.T0 = (X.S.sp X.tk).top := rfl
      have hTP : X.tp = (X.S.sp X.tk).to := rfl
      have ht1 : 0 ≤ M.top := by omega
      have ht2 : M.top + 2 + X.S.num r ≤ (X.S.A.length : Int) := by omega
      have HTK := Lib.hid (take_yes L.hb (3 + 3 * X.tk) (X.S.sp X.tk).to M.top (2 + X.S.num r) w ht1 (by omega) (by omega) (by omega) (by omega) e1 e2 (H.out.hp.fz _))
      have HTK12 : Hid (X.tk = 1 ∨ X.tk = 2) := by show _ ∨ _; omega
      have HNE := Lib.hid (HL.ne H.out.hp.nd)
      have HNQ := Lib.hid H.out.ne
      have HQB := Lib.hid H.out.qB
      have HLO := Lib.hid H.out.lo
      have hlb : L.hb < B ∧ L.wb < B := ⟨H.out.lo _ (by simp [HL.all]), H.out.lo _ (by simp [HL.all])⟩
      have HBH := Lib.hid H.out.hp.hb
      have HNEW := Lib.hid (hM.new hX HF.out hll HM0.out hroom)
      have hrr : r ≤ 65536 := by omega
      have hr1 := hle.1
      clear hT0 hTP e0 e1 e2 hsp hlow htp hroom
      go_wp2_with fail
      refine HTK.out.mono ?_
      rintro e w2 ⟨rfl, m, rfl⟩
      have hu2 : Upd [L.hb] w ((w.setCell ⟨L.hb, 3 + 3 * X.tk + 2, none⟩ (.int .i64 (M.top + (2 + X.S.num r)))).drewN m) := ((Upd.refl _ _).setCell (by simp) _).drewN _
      have hb2 : ((w.setCell ⟨L.hb, 3 + 3 * X.tk + 2, none⟩ (.int .i64 (M.top + (2 + X.S.num r)))).drewN m).heap[L.hb]? = some (.cells (hcells cv mv L (X.mid (M.new X r))) 94) := by
        have h9 := heap_setCell HBH.out (3 + 3 * X.tk + 2) (.int .i64 (M.top + (2 + X.S.num r)))
        have h8 := hcells_new cv mv L X M r HTK12.out
        rw [HWD.out] at h8
        rw [h8] at h9
        exact h9
      generalize (w.setCell ⟨L.hb, 3 + 3 * X.tk + 2, none⟩ (.int .i64 (M.top + (2 + X.S.num r)))).drewN m = w2 at hu2 hb2 ⊢
      have HU2 := Lib.hid hu2
      have HB2 := Lib.hid hb2
      have q0 : w2.cell? ⟨q, 0, none⟩ = some (.pointer (some ⟨L.hb, 0, none⟩)) := hu2.cell q0 (by simp; intro e; exact HNQ.out.1 (e ▸ by simp [HL.all]))
      have h2 : w2.cell? ⟨L.hb, 2, none⟩ = some (.pointer (some ⟨L.ab, 0, none⟩)) := by rw [cell_of hb2]; rfl
      have HCP := Lib.hid (copy_yes L.ab L.wb M.A M.top (r - 1) (2 + X.S.num r) w2 (HAR.out.upd hu2 (by simp; exact HNE.out.1.1.symm) (by simp; exact HNE.out.1.2.1.symm)) (by omega) ht1 (by omega) (by omega) (by omega))
      clear hu2 hb2 HTK
      go_wp2_with fail
      refine HCP.out.mono ?_
      rintro e w3 ⟨rfl, ha3, hu3⟩
      have HU3 := Lib.hid hu3
      have h2 := hu3.cell h2 (by simp; exact HNE.out.1.2.1)
      have q0 := hu3.cell q0 (by simp; intro e; exact HNQ.out.1 (e ▸ by simp [HL.all]))
      have HSTO : Hid (∀ i, i = r → Calls Tryd.prog 70 #[.pointer (some ⟨L.ab, 0, none⟩), .int .i64 i, .int .i64 (M.top + 1)] w3 fun e w' => e = .returned (.bool true) ∧ ArAt w' L.ab L.wb (M.new X r).A ∧ Upd [L.wb] w3 w') := fun i hi => by
        rw [hi]
        exact store_in L.ab L.wb _ r (M.top + 1) w3 ha3 (by omega) (by
          rw [length_splice]
          · omega
          · rw [List.length_take, List.length_drop]; have := HWD.out; omega)
      clear hu3 HCP ha3
      go_wp2_with fail
      refine (HSTO.out _ (by omega)).mono ?_
      rintro e w4 ⟨rfl, ha4, hu4⟩
      have HA4 := Lib.hid ha4
      have HU4 := Lib.hid ((HU2.out.mono (T := [L.hb, L.wb]) (by intro i hi _; simp at hi ⊢; exact .inl hi)).trans ((HU3.out.trans hu4).mono (T := [L.hb, L.wb]) (by intro i hi _; simp at hi ⊢; exact .inr hi)))
      have HB4 := Lib.hid ((HU3.out.trans hu4).heap HB2.out (by simp; exact HNE.out.1.2.1))
      have q3 : w4.cell? ⟨q, 3, none⟩ = some (.pointer (some ⟨fb, 0, none⟩)) := by
        have h9 := HU4.out.heap H.out.mb (by simp; exact ⟨fun e => HNQ.out.1 (e ▸ by simp [HL.all]), fun e => HNQ.out.1 (e ▸ by simp [HL.all])⟩)
        rw [cell_of h9]; rfl
      have HFS := Lib.hid (H.out.fs.upd HU4.out (by simp; exact ⟨fun e => HNQ.out.2.1 (e ▸ by simp [HL.all]), fun e => HNQ.out.2.1 (e ▸ by simp [HL.all])⟩) (by simp; exact ⟨fun e => HNQ.out.2.2.1 (e ▸ by simp [HL.all]), fun e => HNQ.out.2.2.1 (e ▸ by simp [HL.all])⟩))
      have HNO : Hid (bhas fr M.top.toNat = false) := by
        show _ = _
        cases hb9 : bhas fr M.top.toNat with
        | false => rfl
        | true =>
          obtain ⟨a, ha⟩ := (H.out.fx _).1 hb9
          have h9 := (hM.bd _ _ ha).2
          have h8 : 0 ≤ X.S.num a := unN_nonneg _
          omega
      clear hu4 ha4 HSTO q0 h2
      go_wp2_with fail
      refine (add_newI fb fg X.S.A.length M.top fr w4 HFS.out ht1 (by omega) HNO.out).mono ?_
      rintro e w5 ⟨rfl, hf5, hu5⟩
      have HF5 := Lib.hid hf5
      have HU5 := Lib.hid hu5
      have hfq : q ≠ fg := HNQ.out.2.2.2.2
      have q9 := hu5.heap (HU4.out.heap H.out.mb (by simp; exact ⟨fun e => HNQ.out.1 (e ▸ by simp [HL.all]), fun e => HNQ.out.1 (e ▸ by simp [HL.all])⟩)) (by simp; exact hfq)
      have q4 : w5.cell? ⟨q, 4, none⟩ = some wv := by rw [cell_of q9]; rfl
      have qf := froz_of q9 4
      have HQ9 := Lib.hid q9
      have hwk : OwnI w5 B 3 wv M.work := (H.out.wk.upd HU4.out (fun k hk hm => by
        have h9 := (World.ownsRow.lt H.out.wk k hk).1
        simp at hm
        omega)).upd hu5 (fun k hk hm => by
        have h9 := (World.ownsRow.lt H.out.wk k hk).1
        have := HQB.out
        simp at hm
        omega)
      obtain ⟨wp, wc, hwv⟩ : ∃ p c, wv = .slice p M.work.length c := by
        rcases hwk.form with ⟨h1, h2⟩ | ⟨g, c, h1, _⟩
        · exact ⟨none, 0, by rw [h1, h2]; rfl⟩
        · exact ⟨_, c, h1⟩
      have HWK := Lib.hid hwk
      subst hwv
      generalize hwl : M.work.length = WL at *
      have HWL := Lib.hid hwl
      clear hu5 hf5 q9 hwk hwl HFS q3
      obtain ⟨i0, hi, hz0, hz1, hz2⟩ := info_parts Tryd.infoInt
      have HI := Lib.hid hi
      have HZ0 := Lib.hid hz0
      have HZ1 := Lib.hid hz1
      have HZ2 := Lib.hid hz2
      clear hi hz0 hz1 hz2
      go_wp2_with (at_builtin; refine stop_here ?_)
      refine Hid.mk ?_
      have hwb : B ≤ w5.heap.size := Nat.le_trans hB (Nat.le_trans HU4.out.size HU5.out.size)
      have hrow : (w5.alloc (.cells #[.int .i64 (M.top + 1)] 3)).ownsRow B 3 1 (.slice wp WL wc) WL (M.work.map (Value.int .i64)) := by
        have h9 := HWK.out.upd ((Upd.refl [] w5).alloc (.cells #[.int .i64 (M.top + 1)] 3)) (by simp)
        unfold OwnI at h9
        rwa [HWL.out] at h9
      refine (wpList_append_src rfl _ _ 22 rfl B 3 i0 (.int .i64 0) 1 8 Tryd.underlying22 HI.out HZ0.out HZ1.out HZ2.out rfl (by decide) _ _ _ rfl hrow _ 1 ([M.top + 1].map (Value.int .i64)) rfl (.inr ⟨_, _, rfl, cell_one_newM _ _ _⟩) rfl (oneI _) (by unfold maxLen; omega) (by omega) (by simp; omega) ?_)
      intro v' w7 hown hgr hblk
      have HBK : Hid (v'.ownBlock = (Value.slice wp WL wc).ownBlock ∨ ∃ k, v'.ownBlock = some k ∧ w5.heap.size ≤ k) := by
        rcases hblk with e | e
        · exact .inl e
        · exact .inr ⟨_, e, by rw [World.size_alloc]; omega⟩
      clear hblk
      have hu7 : Upd (Value.slice wp WL wc).ownBlock.toList w5 w7 := ((Upd.refl _ w5).alloc _).grown hgr (fun k hk => .inl (Option.mem_toList.2 hk))
      have hob : ∀ k ∈ (Value.slice wp WL wc).ownBlock.toList, B ≤ k := fun k hk => (World.ownsRow.lt HWK.out k (Option.mem_toList.1 hk)).1
      have hP : OwnI w7 B 3 v' (M.new X r).work := by
        show w7.ownsRow B 3 1 v' (M.work ++ [M.top + 1]).length ((M.work ++ [M.top + 1]).map (Value.int .i64))
        rw [List.length_append, List.map_append, HWL.out]
        exact hown
      obtain ⟨vp', vc', hv'⟩ : ∃ p c, v' = .slice p (WL + 1) c := by
        rcases hown.2 with ⟨h1, h2⟩ | ⟨g, c, cur, h1, _⟩
        · simp at h2
        · exact ⟨_, c, h1⟩
      subst hv'
      have hqB := HQB.out
      have q7 := hu7.heap HQ9.out (fun hm => by have := hob _ hm; omega)
      have q74 := cell_of q7 4
      have q7f := froz_of q7 4
      have q70 : w7.cell? ⟨q, 0, none⟩ = some (.pointer (some ⟨L.hb, 0, none⟩)) := by rw [cell_of q7]; rfl
      have HQ7 := Lib.hid q7
      have HP := Lib.hid hP
      have HU7 := Lib.hid hu7
      have HOB := Lib.hid hob
      clear hrow hown hgr hu7 hob hP q7 q4 qf
      go_wp2_with fail
      go_ret
      have hfin : Upd [q] w7 (w7.setCell ⟨q, 4, none⟩ (.slice vp' (WL + 1) vc')) := (Upd.refl _ _).setCell (.inl (by simp)) _
      generalize hTT : ((Value.slice wp WL wc).ownBlock.toList ++ [L.hb, L.wb, fg, q]) = T
      have hmT : ∀ k, k ∈ T → (B ≤ k ∨ k = L.hb ∨ k = L.wb ∨ k = fg ∨ k = q) := by
        intro k hk
        rw [← hTT, List.mem_append] at hk
        rcases hk with hk | hk
        · exact .inl (HOB.out k hk)
        · simp at hk; exact .inr hk
      have hall : Upd T w (w7.setCell ⟨q, 4, none⟩ (.slice vp' (WL + 1) vc')) := by
        refine (((HU4.out.mono (T := T) ?_).trans (HU5.out.mono (T := T) ?_)).trans (HU7.out.mono (T := T) ?_)).trans (hfin.mono (T := T) ?_)
        · intro k hk _; rw [← hTT]; simp at hk ⊢; rcases hk with rfl | rfl <;> simp
        · intro k hk _; rw [← hTT]; simp at hk ⊢; subst hk; simp
        · intro k hk _; rw [← hTT, List.mem_append]; exact .inl hk
        · intro k hk _; rw [← hTT]; simp at hk ⊢; subst hk; simp
      have hnT : ∀ k ∈ L.all, k ≠ L.hb → k ≠ L.wb → k ∉ T := by
        intro k hk h1 h2 hm
        rcases hmT k hm with h3 | h3 | h3 | h3 | h3
        · have := HLO.out k hk; omega
        · exact h1 h3
        · exact h2 h3
        · subst h3; exact HNQ.out.2.2.1 hk
        · subst h3; exact HNQ.out.1 hk
      have hlen9 : (X.mid (M.new X r)).A.length = (X.mid M).A.length := by
        show (M.new X r).A.length = M.A.length
        rw [HNEW.out.len, hM.len]
      have h47 : Upd ((Value.slice wp WL wc).ownBlock.toList ++ [fg, q]) w4 (w7.setCell ⟨q, 4, none⟩ (.slice vp' (WL + 1) vc')) := by
        refine ((HU5.out.mono (T := (Value.slice wp WL wc).ownBlock.toList ++ [fg, q]) ?_).trans (HU7.out.mono (T := (Value.slice wp WL wc).ownBlock.toList ++ [fg, q]) ?_)).trans (hfin.mono (T := (Value.slice wp WL wc).ownBlock.toList ++ [fg, q]) ?_)
        · intro k hk _; simp at hk ⊢; subst hk; simp
        · intro k hk _; rw [List.mem_append]; exact .inl hk
        · intro k hk _; simp at hk ⊢; subst hk; simp
      have hn47 : ∀ k ∈ L.all, k ∉ ((Value.slice wp WL wc).ownBlock.toList ++ [fg, q]) := by
        intro k hk hm
        rw [List.mem_append] at hm
        rcases hm with hm | hm
        · have := HOB.out k hm; have := HLO.out k hk; omega
        · simp at hm
          rcases hm with rfl | rfl
          · exact HNQ.out.2.2.1 hk
          · exact HNQ.out.1 hk
      have h57 : Upd ((Value.slice wp WL wc).ownBlock.toList ++ [q]) w5 (w7.setCell ⟨q, 4, none⟩ (.slice vp' (WL + 1) vc')) := by
        refine (HU7.out.mono (T := (Value.slice wp WL wc).ownBlock.toList ++ [q]) ?_).trans (hfin.mono (T := (Value.slice wp WL wc).ownBlock.toList ++ [q]) ?_)
        · intro k hk _; rw [List.mem_append]; exact .inl hk
        · intro k hk _; simp at hk ⊢; subst hk; simp
      have hn57 : ∀ k, k < B → k ≠ q → k ∉ ((Value.slice wp WL wc).ownBlock.toList ++ [q]) := by
        intro k hk hq hm
        rw [List.mem_append] at hm
        rcases hm with hm | hm
        · have := HOB.out k hm; omega
        · simp at hm; exact hq hm
      have hne := HNE.out
      have hmb := heap_setCell HQ7.out 4 (.slice vp' (WL + 1) vc')
      simp only [List.setIfInBounds_toArray, List.set_cons_zero, List.set_cons_succ] at hmb
      refine ⟨M.new X r, .slice vp' (WL + 1) vc', badd fr M.top.toNat, ?_, ⟨?_, HNEW.out, fun _ => ?_, .inr ⟨HF.out, HM0.out, rfl⟩, ?_, hall.mono (fun k hk _ => by
        rw [← hTT] at hk
        rw [HWL.out]
        rcases List.mem_append.1 hk with hk | hk
        · exact List.mem_append_right _ hk
        · refine List.mem_append_left _ ?_
          simp only [List.mem_cons, List.not_mem_nil, or_false] at hk ⊢
          rcases hk with h | h | h | h <;> simp [h]), ?_⟩⟩
      · rw [fwL_mem HNEW.out.nd (b := M.top + 1) (show (r, M.top + 1) ∈ M.mv ++ [(r, M.top + 1)] by simp)]
        rfl
      · refine ⟨⟨h47.heap HB4.out (hn47 _ (by simp [HL.all])), HA4.out.upd h47 (hn47 _ (by simp [HL.all])) (hn47 _ (by simp [HL.all])), ?_, ?_, H.out.hp.cls.upd hall (hnT _ (by simp [HL.all]) hne.1.2.2.2.2.2.2.symm hne.2.1.2.2.2.2.2.symm), H.out.hp.nd, mid_ok hX HNEW.out⟩, hmb, ?_, fun x => ?_, ?_, HLO.out, hqB, HNQ.out⟩
        · rw [hlen9]
          exact H.out.hp.bg.upd hall (hnT _ (by simp [HL.all]) hne.1.2.2.1.symm hne.2.1.2.1.symm) (hnT _ (by simp [HL.all]) hne.1.2.2.2.1.symm hne.2.1.2.2.1.symm)
        · rw [hlen9]
          exact H.out.hp.mr.upd hall (hnT _ (by simp [HL.all]) hne.1.2.2.2.2.1.symm hne.2.1.2.2.2.1.symm) (hnT _ (by simp [HL.all]) hne.1.2.2.2.2.2.1.symm hne.2.1.2.2.2.2.1.symm)
        · exact HF5.out.upd h57 (hn57 _ hqB.2.1 HNQ.out.2.2.2.1.symm) (hn57 _ hqB.2.2 HNQ.out.2.2.2.2.symm)
        · rw [badd_get _ _ _ (by have h9 := HF5.out.2.2.2.1; simp [badd] at h9; omega), Bool.or_eq_true, decide_eq_true_eq, H.out.fx]
          show _ ↔ ∃ a, (a, (x : Int) + 1) ∈ M.mv ++ [(r, M.top + 1)]
          constructor
          · rintro (⟨a, ha⟩ | hx)
            · exact ⟨a, List.mem_append_left _ ha⟩
            · refine ⟨r, ?_⟩
              rw [List.mem_append]
              right
              simp only [List.mem_singleton, Prod.mk.injEq, true_and]
              omega
          · rintro ⟨a, ha⟩
            rcases List.mem_append.1 ha with ha | ha
            · exact .inl ⟨a, ha⟩
            · right
              simp only [List.mem_singleton, Prod.mk.injEq] at ha
              omega
        · exact HP.out.upd hfin (fun k hk hm => by
            have h9 := (World.ownsRow.lt HP.out k hk).1
            simp at hm
            omega)
      · show r ∈ (M.mv ++ [(r, M.top + 1)]).map Prod.fst; simp
      · exact hall.upB (fun k hk hkB => by
          rcases hmT k hk with h3 | h3 | h3 | h3 | h3
          · omega
          · simp [h3]
          · simp [h3]
          · simp [h3]
          · simp [h3])
      · rw [HWL.out]
        rcases HBK.out with h9 | ⟨k9, h9, h8⟩
        · exact .inl h9
        · refine .inr ⟨k9, h9, ?_⟩
          have := HU4.out.size
          have := HU5.out.size
          omega
end Go.Proofs.YtneeljhjfmcdoaaDoor
