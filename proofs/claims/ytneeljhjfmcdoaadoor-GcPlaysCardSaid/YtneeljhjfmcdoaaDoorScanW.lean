/- The list of those that are still to be looked through, in plain Lean; looking through an object value by value. mover.scan: the walk. -/
import Derived.Test.YtneeljhjfmcdoaaDoorMvW
import Derived.Deep.RegionHeld3
import Derived.Deep.DeepCutAuto
/-! The list of those that are still to be looked through, in plain Lean; looking through an object value by value. -/
namespace Go.Proofs.YtneeljhjfmcdoaaDoor
open Go.RowKit

/-- The first i values of the object at b, too. -/
def scI (sc : Int → Nat → Bool) (b : Int) (i : Nat) : Int → Nat → Bool := fun x k => sc x k || (decide (x = b) && decide (k < i))
theorem scI_zero (sc : Int → Nat → Bool) (b : Int) : scI sc b 0 = sc := by
  funext x k; unfold scI; simp
theorem scI_succ (sc : Int → Nat → Bool) (b : Int) (i : Nat) : sc1 (scI sc b i) b i = scI sc b (i + 1) := by
  funext x k
  show (sc x k || (decide (x = b) && decide (k < i)) || (decide (x = b) && decide (k = i))) = (sc x k || (decide (x = b) && decide (k < i + 1)))
  rw [Bool.or_assoc]
  congr 1
  by_cases h : x = b
  · rw [decide_eq_true h, Bool.true_and, Bool.true_and, Bool.true_and, Bool.eq_iff_iff]
    simp; omega
  · rw [decide_eq_false h, Bool.false_and, Bool.false_and, Bool.false_and]; rfl

structure Mv.Wk (X : Cx) (sc : Int → Nat → Bool) (M : Mv) (cur : Int) : Prop where
  nd : M.work.Nodup
  inn : ∀ b ∈ M.work, (∃ a, (a, b) ∈ M.mv) ∧ (∀ j, sc b j = false) ∧ b ≠ cur
  rest : ∀ a b, (a, b) ∈ M.mv → b ∈ M.work ∨ b = cur ∨ ∀ j : Nat, (j : Int) < X.S.num a → sc b j = true

section
variable {X : Cx} {Lv : List Int} {sc : Int → Nat → Bool} {M : Mv} {cur : Int}
theorem Mv.Wk.start (X : Cx) (sc : Int → Nat → Bool) (A : List Int) (t cur : Int) : (⟨A, t, [], []⟩ : Mv).Wk X sc cur := ⟨List.nodup_nil, by simp, by simp⟩
theorem Mv.Wk.new (hM : M.Ok X Lv sc) (h : M.Wk X sc cur) (hcur : cur ≤ M.top ∨ X.tp < cur) {r : Int} (hroom : M.top + X.S.wd r ≤ X.tp) : (M.new X r).Wk X sc cur := by
  have hn : ∀ a : Int, 0 ≤ X.S.num a := fun a => unN_nonneg _
  have hwd := wd_pos X.S r
  have hno : M.top + 1 ∉ M.work := fun hm => by
    obtain ⟨⟨a, ha⟩, _⟩ := h.inn _ hm
    have := (hM.bd _ _ ha).2
    have := hn a
    omega
  have hsc : ∀ j, sc (M.top + 1) j = false := fun j => by
    cases hs : sc (M.top + 1) j with
    | false => rfl
    | true => rcases hM.scn _ _ hs with h3 | h3 <;> omega
  refine ⟨?_, ?_, ?_⟩
  · show (M.work ++ [M.top + 1]).Nodup
    rw [List.nodup_append]
    exact ⟨h.nd, by simp, fun a ha b hb e => by simp at hb; exact hno (hb ▸ e ▸ ha)⟩
  · intro b hb
    rcases List.mem_append.1 (show b ∈ M.work ++ [M.top + 1] from hb) with h1 | h1
    · obtain ⟨⟨a, ha⟩, h2⟩ := h.inn b h1
      exact ⟨⟨a, List.mem_append_left _ ha⟩, h2⟩
    · simp at h1
      subst h1
      exact ⟨⟨r, by show (r, M.top + 1) ∈ M.mv ++ [(r, M.top + 1)]; simp⟩, hsc, by omega⟩
  · intro a b hm
    show b ∈ M.work ++ [M.top + 1] ∨ _
    rcases List.mem_append.1 (show (a, b) ∈ M.mv ++ [(r, M.top + 1)] from hm) with h1 | h1
    · rcases h.rest a b h1 with h2 | h2
      · exact .inl (List.mem_append_left _ h2)
      · exact .inr h2
    · simp at h1
      left; rw [h1.2]; simp
theorem Mv.Wk.look (h : M.Wk X sc cur) (j : Nat) : M.Wk X (sc1 sc cur j) cur := by
  refine ⟨h.nd, fun b hb => ?_, fun a b hm => ?_⟩
  · obtain ⟨h1, h2, h3⟩ := h.inn b hb
    refine ⟨h1, fun k => ?_, h3⟩
    unfold sc1
    rw [h2, decide_eq_false h3]; rfl
  · rcases h.rest a b hm with h1 | h1 | h1
    · exact .inl h1
    · exact .inr (.inl h1)
    · right; right
      intro k hk
      unfold sc1
      rw [h1 k hk]; rfl
/-- One that is not on the list is looked at. -/
theorem Mv.Wk.look' (h : M.Wk X sc cur) {b : Int} (hb : b ∉ M.work) (j : Nat) : M.Wk X (sc1 sc b j) cur := by
  refine ⟨h.nd, fun x hx => ?_, fun a x hm => ?_⟩
  · obtain ⟨h1, h2, h3⟩ := h.inn x hx
    refine ⟨h1, fun k => ?_, h3⟩
    unfold sc1
    rw [h2, decide_eq_false (fun (e : x = b) => hb (e ▸ hx))]; rfl
  · rcases h.rest a x hm with h1 | h1 | h1
    · exact .inl h1
    · exact .inr (.inl h1)
    · right; right
      intro k hk
      unfold sc1
      rw [h1 k hk]; rfl
theorem Mv.Wk.off (hX : X.Ok) (hM : M.Ok X Lv sc) (h : M.Wk X sc cur) {a b : Int} (hc : b = cur ∨ (X.S.is a = true ∧ X.frm a = false ∧ a = b)) : b ∉ M.work := by
  intro hb
  obtain ⟨⟨a', ha⟩, _, h3⟩ := h.inn b hb
  rcases hc with e | hi
  · exact h3 e
  · obtain rfl := hM.inj hX (.inr hi) (.inl ha)
    have := (hM.frm _ _ ha).1
    rw [hi.2.1] at this; cases this
theorem Mv.Wk.setA (h : M.Wk X sc cur) (A : List Int) : ({ M with A := A } : Mv).Wk X sc cur := ⟨h.nd, h.inn, h.rest⟩
/-- One is taken from the list. -/
theorem Mv.Wk.pop (hX : X.Ok) (hM : M.Ok X Lv sc) {l : List Int} {b : Int} (h : M.Wk X sc 0) (e : M.work = l ++ [b]) : ({ M with work := l } : Mv).Wk X sc b := by
  have hnd := h.nd
  rw [e, List.nodup_append] at hnd
  refine ⟨hnd.1, fun x hx => ?_, fun a x hm => ?_⟩
  · obtain ⟨h1, h2, _⟩ := h.inn x (by rw [e]; exact List.mem_append_left _ hx)
    exact ⟨h1, h2, fun e2 => hnd.2.2 x hx b (by simp) e2⟩
  · rcases h.rest a x hm with h1 | h1 | h1
    · rw [e] at h1
      rcases List.mem_append.1 h1 with h2 | h2
      · exact .inl h2
      · simp at h2; exact .inr (.inl h2)
    · exfalso
      have h2 := (hM.bd _ _ hm).1
      have h3 := hX.ok.sp0 X.tk
      unfold Cx.T0 at h2
      omega
    · exact .inr (.inr h1)
/-- The object has been looked through. -/
theorem Mv.Wk.fin (hX : X.Ok) (hM : M.Ok X Lv sc) (h : M.Wk X sc cur) {a : Int} (hi : M.Img X a cur) (hs : ∀ j : Nat, (j : Int) < X.S.num a → sc cur j = true) : M.Wk X sc 0 := by
  refine ⟨h.nd, fun b hb => ?_, fun a' b hm => ?_⟩
  · obtain ⟨⟨a', ha⟩, h2, h3⟩ := h.inn b hb
    refine ⟨⟨a', ha⟩, h2, ?_⟩
    have h4 := (hM.bd _ _ ha).1
    have h5 := hX.ok.sp0 X.tk
    unfold Cx.T0 at h4
    omega
  · rcases h.rest a' b hm with h1 | h1 | h1
    · exact .inl h1
    · subst h1
      obtain rfl := hM.inj hX hi (.inl hm)
      exact .inr (.inr hs)
    · exact .inr (.inr h1)
/-- Nothing is left to be looked through. -/
theorem Mv.Wk.all (hX : X.Ok) (hM : M.Ok X Lv sc) (h : M.Wk X sc 0) (e : M.work = []) : ∀ a b, (a, b) ∈ M.mv → ∀ j : Nat, (j : Int) < X.S.num a → sc b j = true := by
  intro a b hm
  rcases h.rest a b hm with h1 | h1 | h1
  · rw [e] at h1; simp at h1
  · exfalso
    have h2 := (hM.bd _ _ hm).1
    have h3 := hX.ok.sp0 X.tk
    unfold Cx.T0 at h2
    omega
  · exact h1
theorem Mv.Wk.few (hX : X.Ok) (hM : M.Ok X Lv sc) (h : M.Wk X sc cur) : M.work.length ≤ 65536 := by
  refine len_le 65536 M.work h.nd (fun b hb => ?_)
  obtain ⟨⟨a, ha⟩, _⟩ := h.inn b hb
  have h1 := hM.bd _ _ ha
  have h2 := hM.tp
  have h3 := hX.ok.sp0 X.tk
  have h4 := hX.ok.len
  have h5 : 0 ≤ X.S.num a := unN_nonneg _
  unfold Cx.T0 at h1
  unfold Cx.tp at h2
  omega
theorem Moved.le {w w' : World} {L : HL} {cv mv : Value} {M' : Mv} {r : Int} {q fb fg : Nat} {wv wv' : Value} {B : Nat} {fr' : List Nat} (h : Moved w w' L cv mv X Lv sc M M' r q fb fg wv wv' B fr') : ∀ p ∈ M.mv, p ∈ M'.mv := by
  rcases h.step with e | ⟨_, _, e⟩
  · rw [e]; exact fun _ h => h
  · rw [e]; exact fun p hp => List.mem_append_left _ hp
theorem Moved.top_le {w w' : World} {L : HL} {cv mv : Value} {M' : Mv} {r : Int} {q fb fg : Nat} {wv wv' : Value} {B : Nat} {fr' : List Nat} (h : Moved w w' L cv mv X Lv sc M M' r q fb fg wv wv' B fr') : M.top ≤ M'.top := by
  rcases h.step with e | ⟨_, _, e⟩
  · rw [e]; exact Int.le_refl _
  · rw [e]
    have := wd_pos X.S r
    show M.top ≤ M.top + X.S.wd r
    omega
theorem Moved.room {w w' : World} {L : HL} {cv mv : Value} {M' : Mv} {r : Int} {q fb fg : Nat} {wv wv' : Value} {B : Nat} {fr' : List Nat} (h : Moved w w' L cv mv X Lv sc M M' r q fb fg wv wv' B fr') : X.tp - M'.top + 2 * M'.work.length ≤ X.tp - M.top + 2 * M.work.length := by
  rcases h.step with e | ⟨_, _, e⟩
  · rw [e]; exact Int.le_refl _
  · rw [e]
    have := wd_pos X.S r
    show X.tp - (M.top + X.S.wd r) + 2 * ((M.work ++ [M.top + 1]).length : Int) ≤ _
    rw [List.length_append, List.length_singleton]
    omega
theorem Moved.wk {w w' : World} {L : HL} {cv mv : Value} {M' : Mv} {r : Int} {q fb fg : Nat} {wv wv' : Value} {B : Nat} {fr' : List Nat} (h : Moved w w' L cv mv X Lv sc M M' r q fb fg wv wv' B fr') (hM : M.Ok X Lv sc) (hk : M.Wk X sc cur) (hcur : cur ≤ M.top ∨ X.tp < cur) : M'.Wk X sc cur := by
  rcases h.step with e | ⟨_, _, e⟩
  · rw [e]; exact hk
  · have ht := h.ok.tp
    rw [e] at ht ⊢
    exact hk.new hM hcur ht
end
theorem Mv.Img.le {X : Cx} {M M' : Mv} (hl : ∀ p ∈ M.mv, p ∈ M'.mv) {a b : Int} (h : M.Img X a b) : M'.Img X a b := by
  rcases h with h1 | h1
  · exact .inl (hl _ h1)
  · exact .inr h1
theorem MvAt.upd0 {w w' : World} {L : HL} {cv mv : Value} {X : Cx} {M : Mv} {q fb fg : Nat} {wv : Value} {B : Nat} {fr : List Nat} (h : MvAt w L cv mv X M q fb fg wv B fr) (hu : Upd [] w w') : MvAt w' L cv mv X M q fb fg wv B fr :=
  ⟨h.hp.upd0 hu, hu.heap h.mb (by simp), h.fs.upd hu (by simp) (by simp), h.fx, h.wk.upd hu (fun _ _ => by simp), h.lo, h.qB, h.ne⟩
/-- A word is laid. -/
theorem MvAt.setA {w w' : World} {L : HL} {cv mv : Value} {X : Cx} {M : Mv} {q fb fg : Nat} {wv : Value} {B : Nat} {fr : List Nat} {A : List Int} (h : MvAt w L cv mv X M q fb fg wv B fr) (hA : ArAt w' L.ab L.wb A) (hl : A.length = M.A.length) (hu : Upd [L.wb] w w')
    (hok : (X.mid { M with A := A }).Ok) : MvAt w' L cv mv X { M with A := A } q fb fg wv B fr := by
  have hne := HL.ne h.hp.nd
  have hB := h.lo L.wb (by simp [HL.all])
  have nw : ∀ k, k ∉ L.all → k ∉ [L.wb] := fun k hk hm => by simp at hm; exact hk (by rw [hm]; simp [HL.all])
  have hlen : (X.mid { M with A := A }).A.length = (X.mid M).A.length := hl
  refine ⟨⟨hu.heap h.hp.hb (by simp; exact hne.1.2.1), hA, ?_, ?_, h.hp.cls.upd hu (by simp; exact hne.2.1.2.2.2.2.2.symm), h.hp.nd, hok⟩, hu.heap h.mb (nw _ h.ne.1), h.fs.upd hu (nw _ h.ne.2.1) (nw _ h.ne.2.2.1), h.fx, h.wk.upd hu (fun k hk hm => by
    have h1 := (World.ownsRow.lt h.wk k hk).1
    simp at hm; omega), h.lo, h.qB, h.ne⟩
  · rw [hlen]; exact h.hp.bg.upd hu (by simp; exact hne.2.1.2.1.symm) (by simp; exact hne.2.1.2.2.1.symm)
  · rw [hlen]; exact h.hp.mr.upd hu (by simp; exact hne.2.1.2.2.2.1.symm) (by simp; exact hne.2.1.2.2.2.2.1.symm)
end Go.Proofs.YtneeljhjfmcdoaaDoor

/-! mover.scan: the walk. -/
namespace Go.Proofs.YtneeljhjfmcdoaaDoor
open Go.RowKit

/-- What looking through leaves. -/
structure Scanned (w w' : World) (L : HL) (cv mv : Value) (X : Cx) (Lv : List Int) (sc' : Int → Nat → Bool) (M M' : Mv) (cur : Int) (q fb fg : Nat) (wv wv' : Value) (B : Nat) (fr' : List Nat) : Prop where
  at_ : MvAt w' L cv mv X M' q fb fg wv' B fr'
  ok : M'.Ok X Lv sc'
  wk : M'.Wk X sc' cur
  le : ∀ p ∈ M.mv, p ∈ M'.mv
  top : M.top ≤ M'.top
  room : X.tp - M'.top + 2 * M'.work.length ≤ X.tp - M.top + 2 * M.work.length
  up : UpB B [L.hb, L.wb, q, fg] w w'
  upo : Upd ([L.hb, L.wb, q, fg] ++ wv.ownBlock.toList) w w'
  own : wv'.ownBlock = wv.ownBlock ∨ ∃ k, wv'.ownBlock = some k ∧ w.heap.size ≤ k

theorem refB_is {S : Hp} {a : Int} (ha : S.is a = true) {i : Nat} (hi : (i : Int) < S.num a) : S.refB a i = (decide (S.cls a = -2) || decide (0 ≤ S.cls a) && decide (((S.cs.getD (S.cls a).toNat ByteArray.empty).get! i) = 82)) := by
  unfold Hp.refB
  rw [ha, decide_eq_true (show 0 ≤ (i : Int) ∧ (i : Int) < S.num a from ⟨by omega, hi⟩), Int.toNat_natCast]
  simp

theorem store_at (b g : Nat) (xs : List Int) (i v x : Int) (w : World) (h : ArAt w b g xs) (hx : x = i) (h0 : 0 ≤ i) (h1 : i < xs.length) :
    Calls Tryd.prog 70 #[.pointer (some ⟨b, 0, none⟩), .int .i64 x, .int .i64 v] w fun e w' => e = .returned (.bool true) ∧ ArAt w' b g (xs.set i.toNat v) ∧ Upd [g] w w' := by
  rw [hx]; exact store_in b g xs i v w h h0 h1
set_option maxRecDepth 100000 in
set_option maxHeartbeats 8000000 in
theorem scan_any (L : HL) (cv mv : Value) (X : Cx) (Lv : List Int) (sc : Int → Nat → Bool) (M : Mv) (q fb fg : Nat) (wv : Value) (B : Nat) (fr : List Nat) (a b cur : Int) (w : World)
    (hX : X.Ok) (hR : X.Room Lv) (hM : M.Ok X Lv sc) (hW : M.Wk X sc cur) (h : MvAt w L cv mv X M q fb fg wv B fr) (hi : M.Img X a b) (hcb : b = cur ∨ (X.S.is a = true ∧ X.frm a = false ∧ a = b)) (hun : ∀ j, sc b j = false) (hcur : cur ≤ M.top ∨ X.tp < cur)
    (hl : ∀ j : Nat, (j : Int) < X.S.num a → X.S.refB a j = true → X.frm (X.S.get a j) = true → X.S.get a j ∈ Lv) (hB : B ≤ w.heap.size) :
    Calls Tryd.prog 77 #[.pointer (some ⟨q, 0, none⟩), .int .i64 b] w fun e w' => ∃ M' wv' fr', e = .returned (.tuple #[]) ∧ Scanned w w' L cv mv X Lv (scI sc b (X.S.num a).toNat) M M' cur q fb fg wv wv' B fr' := by
  obtain ⟨hais, hb1, hb2⟩ := hM.place hX hi
  have hle := hX.ok.le hais
  have hlen := hM.len
  have hlen2 := hX.ok.len
  have hn0 : 0 ≤ X.S.num a := unN_nonneg _
  obtain ⟨n, hn⟩ := Int.eq_ofNat_of_zero_le hn0
  have q0 : w.cell? ⟨q, 0, none⟩ = some (.pointer (some ⟨L.hb, 0, none⟩)) := by rw [cell_of h.mb]; rfl
  have h2 : w.cell? ⟨L.hb, 2, none⟩ = some (.pointer (some ⟨L.ab, 0, none⟩)) := h.hp.c2
  have hhd := (hM.img a b hi).1
  have hhok := (hX.ok.heads _ (is_bhas hais).1).1
  have HLD := Lib.hid (load_in L.ab L.wb M.A (b - 1) w h.hp.ar (by omega) (by omega))
  rw [hhd] at HLD
  have HUN := Lib.hid (unpack_yes (X.S.A.getD (a - 1).toNat 0) w hhok)
  have e1 : unC (X.S.A.getD (a - 1).toNat 0) = X.S.cls a := rfl
  have e2 : unN (X.S.A.getD (a - 1).toNat 0) = (n : Int) := hn
  rw [e1, e2] at HUN
  have HN := Lib.hid hn
  have H := Lib.hid h
  have HI := Lib.hid hi
  have HLL := Lib.hid hl
  have hnb : n ≤ 1048576 := by omega
  have hbb : b + 1 + (n : Int) ≤ (M.A.length : Int) := by omega
  clear e1 e2 hhd hhok hn0 hl h hi
  generalize X.S.A.getD (a - 1).toNat 0 = hw at HLD HUN
  go_enter Tryd.func77, Tryd.ntmps77
  go_wp2_with fail
  refine HLD.out.mono ?_
  rintro e w' ⟨rfl, rfl⟩
  go_wp2_with fail
  refine HUN.out.mono ?_
  rintro e w' ⟨rfl, rfl⟩
  clear HLD HUN
  have hcl1 := hle.2.2.2.2.1
  have hcl2 := hle.2.2.2.2.2
  have HFLD := Lib.hid (hX.ok.fields hais)
  have HRB : Hid (∀ i : Nat, i < n → X.S.refB a i = (decide (X.S.cls a = -2) || decide (0 ≤ X.S.cls a) && decide (((X.S.cs.getD (X.S.cls a).toNat ByteArray.empty).get! i) = 82))) := fun i hi => refB_is hais (by rw [hn]; omega)
  have hn' := hn
  clear hn hle
  generalize hclg : X.S.cls a = cl at HFLD HRB hcl1 hcl2 ⊢
  clear hclg
  have HN' := Lib.hid hn'
  clear hn'
  go_wp2_with fail
  go_loopw [34] (fun iv wr => ∃ (i : Nat) (M' : Mv) (wv' : Value) (fr' : List Nat), i ≤ n ∧ iv = .int .i64 i ∧ Hid (Scanned w wr L cv mv X Lv (scI sc b i) M M' cur q fb fg wv wv' B fr')) (fun iv _ => n - (intOf iv).toNat)
  case atStart => exact ⟨0, M, wv, fr, by omega, rfl, ⟨H.out, by rw [scI_zero]; exact hM, by rw [scI_zero]; exact hW, fun _ h => h, Int.le_refl _, by omega, UpB.refl _ _ _, Upd.refl _ _, .inl rfl⟩⟩
  case round =>
    clear q0 h2
    obtain ⟨i, M', wv', fr', hin, rfl, HS⟩ := hrel
    obtain ⟨wo, rfl⟩ : ∃ wo : World, wo = wr := ⟨_, rfl⟩
    by_cases hlt : i < n
    · have hok := HS.out.ok
      have hat := HS.out.at_
      have himg := Mv.Img.le HS.out.le HI.out
      have q0 : wo.cell? ⟨q, 0, none⟩ = some (.pointer (some ⟨L.hb, 0, none⟩)) := by rw [cell_of hat.mb]; rfl
      have h2 : wo.cell? ⟨L.hb, 2, none⟩ = some (.pointer (some ⟨L.ab, 0, none⟩)) := hat.hp.c2
      have h0c := hat.hp.c0
      have hii : (i : Int) < X.S.num a := by rw [HN'.out]; omega
      have HII := Lib.hid hii
      have HAT := Lib.hid hat
      have HIMG := Lib.hid himg
      have HOK := Lib.hid hok
      have hrb := HRB.out i hlt
      have HRBI := Lib.hid hrb
      have HCV : Hid (∀ k : Nat, k < X.S.cs.length → ∃ cap, cv = .slice (some ⟨L.cb, L.co, none⟩) X.S.cs.length cap ∧ wo.cell? ⟨L.cb, L.co + k, none⟩ = some (.string (X.S.cs.getD k ByteArray.empty))) := fun k hk => hat.hp.cv k hk
      clear hrb hat himg hok hii
      go_upto_region 5 with fail
      go_cut [59] from 37 to 58 (fun tv wx => Hid (tv = .bool (X.S.refB a i) ∧ wo = wx))
      case first =>
        by_cases c2 : cl = -2
        · have hr : X.S.refB a i = true := by rw [HRBI.out, decide_eq_true c2, Bool.true_or]
          subst c2
          have HR := Lib.hid hr
          clear hr
          go_wp2_with fail
          go_meet
          exact ⟨by rw [HR.out], rfl⟩
        · by_cases c0 : 0 ≤ cl
          · obtain ⟨k, rfl⟩ := Int.eq_ofNat_of_zero_le c0
            have hkl : k < X.S.cs.length := by omega
            obtain ⟨cap, hcv, hcc⟩ := HCV.out k hkl
            rw [hcv] at h0c
            have hsz := HFLD.out c0
            rw [HN'.out] at hsz
            have hrb := HRBI.out
            rw [Int.toNat_natCast] at hsz hrb
            generalize X.S.cs.getD k ByteArray.empty = fs at hcc hsz hrb
            have hjs : i < fs.size := by omega
            have HFIN : Hid (((((fs[i]'hjs).toNat : Nat) : Int) == 82) = X.S.refB a i) := by
              show _ = _
              rw [hrb, decide_eq_false (by omega : ¬ ((k : Int) = -2)), decide_eq_true (by omega : 0 ≤ (k : Int)), Bool.false_or, Bool.true_and]
              exact byte_eq fs i 82 hjs
            have hkn : ((k : Int) == -2) = false := by rw [beq_eq_false_iff_ne]; omega
            have e0 : decide (0 ≤ (k : Int)) = true := by simp
            clear hrb hsz hcv c2 c0
            go_wp2_with fail
            go_meet
            exact ⟨congrArg Value.bool HFIN.out, rfl⟩
          · have hr : X.S.refB a i = false := by rw [HRBI.out, decide_eq_false c2, decide_eq_false c0]; rfl
            have hkn : (cl == -2) = false := by rw [beq_eq_false_iff_ne]; exact c2
            have e0 : decide (0 ≤ cl) = false := by simpa using c0
            have HR := Lib.hid hr
            clear hr c2 c0
            go_wp2_with fail
            go_meet
            exact ⟨by rw [HR.out], rfl⟩
      case rest =>
        obtain ⟨rfl, rfl⟩ := hcut.out
        cases hr : X.S.refB a i with
        | false =>
          have HSK : Hid (Scanned w wo L cv mv X Lv (scI sc b (i + 1)) M M' cur q fb fg wv wv' B fr') := ⟨HAT.out, by rw [← scI_succ]; exact HOK.out.skip hX HIMG.out i hr, by rw [← scI_succ]; exact HS.out.wk.look' (HS.out.wk.off hX HOK.out hcb) i, HS.out.le, HS.out.top, HS.out.room, HS.out.up, HS.out.upo, HS.out.own⟩
          clear hr
          go_wp2_with fail
          go_roundw
          case rel => exact ⟨i + 1, M', wv', fr', by omega, by go_num, HSK.out⟩
          case measure => simp [intOf]; omega
        | true =>
          have HRT := Lib.hid hr
          clear hr
          have hlen9 := HOK.out.len
          have HGET : Hid (M'.A.getD (b + 1 + i).toNat 0 = X.S.get a i) := by
            show _ = _
            rw [(HOK.out.img a b HIMG.out).2.2 i HII.out]
            have : scI sc b i b i = false := by unfold scI; rw [hun i]; simp
            rw [this, Bool.false_and, if_neg (by simp)]
          have HLOAD2 : Hid (∀ x, x = b + 1 + (i : Int) → Calls Tryd.prog 42 #[.pointer (some ⟨L.ab, 0, none⟩), .int .i64 x] wo fun e w' => e = .returned (.tuple #[.int .i64 (X.S.get a i), .bool true]) ∧ wo = w') := fun x hx => by
            have h9 := load_in L.ab L.wb M'.A x wo HAT.out.hp.ar (by omega) (by omega)
            rw [hx, HGET.out] at h9
            rw [hx]
            exact h9
          have hgw := hX.wide (a + 1 + i).toNat
          have hgw2 : -9223372036854775808 ≤ X.S.get a i ∧ X.S.get a i ≤ 9223372036854775807 := hgw
          have HMV := Lib.hid (move_any L cv mv X Lv (scI sc b i) M' q fb fg wv' B fr' (X.S.get a i) wo.drew hX hR HOK.out (HAT.out.upd0 (Upd.refl [] wo).drew) hgw2.2 (HLL.out i HII.out HRT.out) (Nat.le_trans hB HS.out.up.size) (HS.out.wk.few hX HOK.out))
          clear hgw h0c
          go_wp2_with fail
          refine (HLOAD2.out _ (by omega)).mono ?_
          rintro e w' ⟨rfl, rfl⟩
          go_wp2_with fail
          have q0d := (Upd.refl [] wo).drew.cell q0 (by simp)
          have h2d := (Upd.refl [] wo).drew.cell h2 (by simp)
          have hne := HL.ne HAT.out.hp.nd
          have hqn := HAT.out.ne
          have hlo := HAT.out.lo
          have hqB := HAT.out.qB
          go_region_held3 (fun w' => w'.cell? ⟨q, 0, none⟩ = some (.pointer (some ⟨L.hb, 0, none⟩)) ∧ w'.cell? ⟨L.hb, 2, none⟩ = some (.pointer (some ⟨L.ab, 0, none⟩)))
            (first | exact ⟨q0d, h2d⟩ | exact ⟨hs0, hs1⟩ | exact ⟨hk0, hk1⟩ | exact ⟨q0, h2⟩)
            ((first
              | (go_at_call 76; refine HMV.out.mono ?_; rintro e w4 ⟨M2, wv2, fr2, rfl, hmoved⟩; have hk0 : w4.cell? ⟨q, 0, none⟩ = some (.pointer (some ⟨L.hb, 0, none⟩)) := (by rw [cell_of hmoved.at_.mb]; rfl); have hk1 : w4.cell? ⟨L.hb, 2, none⟩ = some (.pointer (some ⟨L.ab, 0, none⟩)) := hmoved.at_.hp.c2)
              | (go_at_call 70; refine (store_at L.ab L.wb M2.A (b + 1 + i) (fwL M2.mv (X.S.get a i)) _ w4 hmoved.at_.hp.ar (by omega) (by omega) (by have h9 := hmoved.ok.len; omega)).mono ?_; rintro e w5 ⟨rfl, hA5, hu5⟩; have hs0 := hu5.cell hk0 (by simp; intro e; exact hqn.1 (e ▸ by simp [HL.all])); have hs1 := hu5.cell hk1 (by simp; exact hne.1.2.1))))
          go_wp2_with fail
          have hcur2 : cur ≤ M'.top ∨ X.tp < cur := by
            have := HS.out.top
            rcases hcur with h9 | h9
            · left; omega
            · exact .inr h9
          have himg2 := Mv.Img.le hmoved.le HIMG.out
          have hput := hmoved.ok.put hX himg2 i HII.out HRT.out hmoved.gone
          have hwk2 := hmoved.wk HOK.out HS.out.wk hcur2
          have HFIN : Hid (Scanned w w5 L cv mv X Lv (scI sc b (i + 1)) M { M2 with A := M2.A.set (b + 1 + i).toNat (fwL M2.mv (X.S.get a i)) } cur q fb fg wv wv2 B fr2) := by
            refine ⟨hmoved.at_.setA hA5 (by rw [List.length_set]) hu5 (mid_ok hX hput), ?_, ?_, fun p hp => hmoved.le p (HS.out.le p hp), Int.le_trans HS.out.top hmoved.top_le, Int.le_trans hmoved.room HS.out.room, ?_, ?_, ?_⟩
            · rw [← scI_succ]; exact hput
            · rw [← scI_succ]; exact (hwk2.look' (hwk2.off hX hmoved.ok hcb) i).setA _
            · refine ((HS.out.up.trans ((Upd.refl [] wo).drew.upB (by simp))).trans hmoved.up).trans (hu5.upB (fun k hk _ => ?_))
              simp at hk
              simp [hk]
            · have h8 : Upd ([L.hb, L.wb, q, fg] ++ wv'.ownBlock.toList) wo w5 := ((Upd.refl _ wo).drew.trans hmoved.upo).trans (hu5.mono (fun k hk _ => by simp at hk ⊢; simp [hk]))
              refine HS.out.upo.trans' h8 (fun k hk hl => ?_)
              rcases List.mem_append.1 hk with hk | hk
              · exact List.mem_append_left _ hk
              · rcases HS.out.own with h9 | ⟨k', h9, h10⟩
                · rw [h9] at hk; exact List.mem_append_right _ hk
                · rw [h9] at hk; simp at hk; omega
            · rcases hmoved.own with h9 | ⟨k', h9, h10⟩
              · rw [h9]; exact HS.out.own
              · refine .inr ⟨k', h9, ?_⟩
                have h11 := HS.out.up.size
                have h12 : wo.drew.heap.size = wo.heap.size := rfl
                omega
          clear hput hwk2 himg2 hmoved hA5 hu5 hk0 hk1 hs0 hs1 q0d h2d
          go_roundw
          case rel => exact ⟨i + 1, _, wv2, fr2, by omega, by go_num, HFIN.out⟩
          case measure => simp [intOf]; omega
    · obtain rfl : i = n := by omega
      go_wp2_with fail
      go_end0
      exact ⟨M', wv', fr', rfl, by rw [HN'.out, Int.toNat_natCast]; exact HS.out⟩
end Go.Proofs.YtneeljhjfmcdoaaDoor
