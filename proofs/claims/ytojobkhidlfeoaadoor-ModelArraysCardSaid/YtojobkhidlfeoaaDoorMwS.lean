/- model: Machine.Step, whatever it does; slices.Clone of long integers; model.New. model: what a machine has left, read from memory; Machine.Run. model.Run. -/
import Derived.Test.YtojobkhidlfeoaaDoorMwP
import Derived.Test.YtojobkhidlfeoaaDoorIProg
import Derived.Test.YtojobkhidlfeoaaDoorMdS
/-! model: Machine.Step, whatever it does; slices.Clone of long integers; model.New. -/
namespace Go.Proofs.YtojobkhidlfeoaaDoor
open Go.RowKit

section
variable {B : Nat} {w : World} {U R : List Nat} {mb ib : Nat} {p : Prg} {S : Mc} {X : MX} {ss : List Lk}
theorem mstep_any (h : MAt B w U R mb ib p S X) (v : Vf p ss) (hS : S.Ok p ss) :
  Calls Tryd.prog 20 #[.pointer (some ⟨mb, 0, none⟩)] w fun e w' => e = .returned (.bool (S.step p).fin.isNone) ∧ Stp B w w' U R mb ib p (S.step p) := by
 cases hfin : S.fin with
 | some F => exact mstep_ended h hfin
 | none =>
  obtain ⟨f, below, hf⟩ := List.exists_cons_of_ne_nil (hS.live hfin)
  by_cases h1 : (p.at_ f.m f.pc).op = 22 ∨ (p.at_ f.m f.pc).op = 23
  ·exact mstep_jump h v hS hf hfin h1
  ·by_cases h2 : (p.at_ f.m f.pc).op = 32
   ·exact mstep_call h v hS hf hfin h2
   ·by_cases h3 : (p.at_ f.m f.pc).op = 33
    ·exact mstep_ret h v hS hf hfin h3
    ·exact mstep_plain h v hS hf hfin ⟨fun e => h1 (.inl e), fun e => h1 (.inr e), h2, h3⟩
end
theorem LngV.src {w : World} {v : Value} {b o : Nat} {xs : List Int} (h : LngV w v b o xs) (j : Nat) (u : Value) (hj : (xs.map (Value.int .i64))[j]? = some u) : w.cell? ⟨b, o + j, none⟩ = some u := by
 rw [List.getElem?_map] at hj
 obtain ⟨y, hy, rfl⟩ := Option.map_eq_some_iff.1 hj
 obtain ⟨hlt, he⟩ := List.getElem?_eq_some_iff.1 hy
 have h1 := h.2 j hlt
 rwa [List.getD_eq_getElem?_getD, hy] at h1
set_option maxRecDepth 100000 in
set_option maxHeartbeats 1000000 in
theorem lclone_any (p : Option Addr) (c : Nat) (b o : Nat) (xs : List Int) (w : World) (h : LngV w (.slice p xs.length c) b o xs) (hp : p = none → c = 0) (hn : xs.length ≤ 1000000) :
  Calls Tryd.prog 18 #[.slice p xs.length c] w fun e w' => ∃ q vc, e = .returned (.slice q xs.length vc) ∧ OwnI w' w.heap.size 2 (.slice q xs.length vc) xs ∧ Upd [] w w' := by
 obtain ⟨i0, hi, hz0, hz1, hz2⟩ := info_parts Tryd.infoMLong
 have HI := Lib.hid hi
 have HZ0 := Lib.hid hz0
 have HZ1 := Lib.hid hz1
 have HZ2 := Lib.hid hz2
 clear hi hz0 hz1 hz2
 cases p with
 | none =>
  obtain rfl := hp rfl
  have hx : xs = [] := by
   obtain ⟨⟨p', c', he, _, _, h2⟩, _⟩ := h
   injection he with e1
   subst e1
   exact Decidable.byContradiction fun hne => by cases h2 hne
  subst hx
  clear h hp
  have hq : ∀ W, (binOp BinOp.eql 22 (.slice none 0 0) (.slice none 0 0)).run Tryd.prog W = .ok (.bool true) W := fun _ => by kernel_rfl
  go_enter Tryd.func18, Tryd.ntmps18
  go_wp2_with fail
  go_ret
  exact ⟨none, 0, rfl, OwnI.nil _ _ _, Upd.refl _ _⟩
 | some a =>
  have HLT : Hid (∀ j u, (xs.map (Value.int .i64))[j]? = some u → w.cell? ⟨b, o + j, none⟩ = some u) := h.src
  have HAE : Hid (xs ≠ [] → a = ⟨b, o, none⟩) := by
   obtain ⟨⟨p', c', he, _, _, h2⟩, _⟩ := h
   injection he with e1
   subst e1
   exact fun hne => by injection h2 hne
  clear h hp
  have hq : ∀ W, (binOp BinOp.eql 22 (.slice (some a) xs.length c) (.slice none 0 0)).run Tryd.prog W = .ok (.bool false) W := fun _ => by kernel_rfl
  go_enter Tryd.func18, Tryd.ntmps18
  go_wp2_with (at_builtin; refine stop_here ?_)
  refine Hid.mk ?_
  have hrow : (w.alloc (.cells #[] 2)).ownsRow w.heap.size 2 1 (.slice (some ⟨w.heap.size, 0, none⟩) 0 0) 0 [] :=
   ⟨by simp, .inr ⟨w.heap.size, 0, #[], rfl, Nat.le_refl _, heap_alloc_new _ _, by omega, by simp [maxLen], by simp, by simp⟩⟩
  have hsrc : SrcV (w.alloc (.cells #[] 2)) (.slice (some a) xs.length c) xs.length (xs.map (Value.int .i64)) := .inr ⟨a, c, rfl, fun j u hj => by
   have hne : xs ≠ [] := fun e => by subst e; simp at hj
   obtain rfl := HAE.out hne
   rw [Addr.add_lit]
   exact ((Upd.refl [] w).alloc _).cell (HLT.out j u hj) (by simp)⟩
  refine (wpList_append_src rfl _ _ 22 rfl w.heap.size 2 i0 (.int .i64 0) 1 8 Tryd.underlying22 HI.out HZ0.out HZ1.out HZ2.out rfl (by decide) _ _ _ rfl hrow _ xs.length (xs.map (Value.int .i64)) rfl hsrc (by simp) (oneI _) (by unfold maxLen; omega) (by omega) (by simp) ?_)
  intro v' w6 hown hgr _
  have hu := ((Upd.refl [] w).alloc (.cells #[] 2)).grown hgr (fun q hq => .inr (by injection hq with hq; exact Nat.le_of_eq hq))
  rw [Nat.zero_add, List.nil_append] at hown
  have HO : Hid (OwnI w6 w.heap.size 2 v' xs) := hown
  have HU := Lib.hid hu
  obtain ⟨p2, c2, rfl⟩ : ∃ p c, v' = .slice p xs.length c := by
   rcases HO.out.form with ⟨h1, h2⟩ | ⟨g, c, h1, _⟩
   ·subst h2; exact ⟨none, 0, h1⟩
   ·exact ⟨_, _, h1⟩
  clear hown hgr hu hrow hsrc
  go_wp2_with fail
  go_ret
  exact ⟨_, _, rfl, HO.out, HU.out⟩
/-- A row of one's own can be read. -/
theorem OwnI.lng {w : World} {base : Nat} {v : Value} {xs : List Int} (h : OwnI w base 2 v xs) : ∃ b, LngV w v b 0 xs ∧ (xs ≠ [] → v.ownBlock = some b ∧ base ≤ b ∧ b < w.heap.size ∧ ∃ c, w.heap[b]? = some (.cells c 2)) := by
 rcases h.2 with ⟨h1, h2⟩ | ⟨g, c, cur, h1, hb, hg, hc, hm, _⟩
 ·have hx : xs = [] := List.eq_nil_of_length_eq_zero h2
  subst hx
  subst h1
  exact ⟨0, ⟨⟨none, 0, rfl, Nat.le_refl _, by unfold maxLen; omega, fun h => absurd rfl h⟩, by simp⟩, fun h => absurd rfl h⟩
 ·refine ⟨g, ⟨⟨_, c, h1, hc, hm, fun _ => rfl⟩, fun i hi => ?_⟩, fun _ => ⟨by rw [h1]; rfl, hb, (World.ownsRow.lt h g (by rw [h1]; rfl)).2, cur, hg⟩⟩
  have := World.ownsRow.cells h (g := g) (by rw [h1]; rfl) i (.int .i64 (xs.getD i default)) (by
   rw [List.getElem?_map, List.getElem?_eq_getElem hi, List.getD_eq_getElem?_getD, List.getElem?_eq_getElem hi]
   rfl)
  rw [Addr.add_lit] at this
  exact this
/-- A machine without a frame. -/
def Mc.bare (inp : List Int) (fuel : Nat) : Mc := ⟨[], [], inp, fuel, [], none⟩
def MX.bare (cv mv iv : Value) : MX := ⟨cv, mv, iv, .slice none 0 0, .slice none 0 0, .slice none 0 0, [], []⟩
theorem MAt.bare {w w1 w2 : World} {ib : Nat} {p : Prg} {cv mv iv : Value} {inp : List Int} {fuel : Nat} (hc : ClassAt w1 cv p.cs) (hm : MethsAt w1 mv p.ms) (ho : OwnI w2 w1.heap.size 2 iv inp) (hu : Upd [] w1 w2)
  (hw : w = w2.alloc (.cells (mccells ib (Mc.bare inp fuel) (MX.bare cv mv iv)) 78)) :
  MAt w1.heap.size w (news w1 w) (news w1 w) w2.heap.size ib p (Mc.bare inp fuel) (MX.bare cv mv iv) := by
 have hu3 : Upd [] w2 w := by rw [hw]; exact (Upd.refl [] w2).alloc _
 have hu1 := hu.trans hu3
 have hsz : w.heap.size = w2.heap.size + 1 := by rw [hw]; simp
 have hb : w.heap[w2.heap.size]? = some (.cells (mccells ib (Mc.bare inp fuel) (MX.bare cv mv iv)) 78) := by rw [hw]; exact heap_alloc_new w2 _
 have hr : Reads w1 (offs w (news w1 w)) := fun q v hq => by
  refine cell_offs (hu1.cell hq (by simp)) (fun hm => ?_)
  have := World.block_lt_of_cell? w1 q hq
  have := (mem_news.1 hm).1
  omega
 obtain ⟨b, h1, h2⟩ := ho.lng
 refine ⟨hb, fun b hb => hb, fun b hb => mem_news.1 hb, hc.reads hr, hm.reads hr, World.ownsRow_nil _ _ _ _, rfl, World.ownsRow_nil _ _ _ _, Rows.nil _ _ _, Rows.nil _ _ _, ?_, ?_, ?_, ⟨b, 0, h1.upd hu3 (.inr (by simp)), fun hne => ?_⟩, World.ownsRow_nil _ _ _ _, mem_news.2 ⟨hu.size, by omega⟩, ?_⟩
 ·intro b hb; cases hb
 ·intro i hi; cases hi
 ·intro i _ hi; cases hi
 ·obtain ⟨_, h3, h4, c, h5⟩ := h2 hne
  exact ⟨mem_news.2 ⟨h3, by omega⟩, (fun h => by cases h), c, hu3.heap h5 (by simp)⟩
 ·intro b hb
  rcases hb with hb | hb | hb | hb | hb <;> cases hb
set_option maxRecDepth 100000 in
set_option maxHeartbeats 2000000 in
theorem mnew_any {w : World} {ib : Nat} {p : Prg} {ss : List Lk} {n : Int} (h : InfoAt w ib p ss n) (v : Vf p ss) (ip : Option Addr) (ic b o : Nat) (inp : List Int) (hi : LngV w (.slice ip inp.length ic) b o inp) (hip : ip = none → ic = 0) (hin : inp.length ≤ 100000) (fuel : Nat) (hf : fuel ≤ 2000) :
  Calls Tryd.prog 10 #[.pointer (some ⟨ib, 0, none⟩), .slice ip inp.length ic, .int .i64 fuel] w fun e w' => ∃ B U R mb X, e = .returned (.tuple #[.pointer (some ⟨mb, 0, none⟩), .nilIface]) ∧ (∀ b ∈ U, w.heap.size ≤ b) ∧ MAt B w' U R mb ib p (Mc.new p inp fuel) X ∧ Upd [] w w' := by
 have hms := v.ok.many
 have hcs := v.ok.few
 have hone := v.ok.one
 have hcode : ∀ j, j < p.ms.length → (p.ms.getD j default).code.length ≤ 1000 := fun j hj => by
  have h1 := v.ok.meth j hj
  unfold headCode at h1
  split at h1
  ·cases h1
  ·omega
 have HIP := Lib.hid (iprog_any ib p ss n w h (by omega) (by omega) hcode)
 have HI := Lib.hid hi
 have HOK := Lib.hid v
 clear h hcode
 have hf0 : ¬ ((fuel : Int) < 0) := by omega
 have hf1 : ¬ ((2000 : Int) < (fuel : Int)) := by omega
 go_enter Tryd.func10, Tryd.ntmps10
 go_wp2_with fail
 refine HIP.out.mono ?_
 rintro e w1 ⟨cv, mv, rfl, hc, hm, hu⟩
 obtain ⟨ca, cc, hce, _⟩ := id hc
 obtain ⟨ma, mc, hme, _⟩ := id hm
 subst hce hme
 have HC := Lib.hid hc
 have HM := Lib.hid hm
 have HU := Lib.hid hu
 have HCL := Lib.hid (lclone_any ip ic b o inp w1 (HI.out.upd hu (.inr (by simp))) hip (by omega))
 clear hc hm hu hi
 go_wp2_with fail
 refine HCL.out.mono ?_
 rintro e w2 ⟨q, vc, rfl, ho, hu2⟩
 have HB : Hid (MAt w1.heap.size (w2.alloc (.cells #[.pointer (some ⟨ib, 0, none⟩), .slice ca p.cs.length cc, .slice ma p.ms.length mc, .slice q inp.length vc, .int .i64 fuel, .slice none 0 0, .slice none 0 0, .int .i64 0, .int .i64 0, .int .i64 0, .int .i64 0, .int .i64 0, .slice none 0 0, .bool false] 78)) (news w1 (w2.alloc (.cells #[.pointer (some ⟨ib, 0, none⟩), .slice ca p.cs.length cc, .slice ma p.ms.length mc, .slice q inp.length vc, .int .i64 fuel, .slice none 0 0, .slice none 0 0, .int .i64 0, .int .i64 0, .int .i64 0, .int .i64 0, .int .i64 0, .slice none 0 0, .bool false] 78))) (news w1 (w2.alloc (.cells #[.pointer (some ⟨ib, 0, none⟩), .slice ca p.cs.length cc, .slice ma p.ms.length mc, .slice q inp.length vc, .int .i64 fuel, .slice none 0 0, .slice none 0 0, .int .i64 0, .int .i64 0, .int .i64 0, .int .i64 0, .int .i64 0, .slice none 0 0, .bool false] 78))) w2.heap.size ib p (Mc.bare inp fuel) (MX.bare (.slice ca p.cs.length cc) (.slice ma p.ms.length mc) (.slice q inp.length vc))) := MAt.bare HC.out HM.out ho hu2 rfl
 have HU2 : Hid (Upd [] w1 (w2.alloc (.cells #[.pointer (some ⟨ib, 0, none⟩), .slice ca p.cs.length cc, .slice ma p.ms.length mc, .slice q inp.length vc, .int .i64 fuel, .slice none 0 0, .slice none 0 0, .int .i64 0, .int .i64 0, .int .i64 0, .int .i64 0, .int .i64 0, .slice none 0 0, .bool false] 78))) := hu2.alloc _
 clear ho hu2
 go_upto_region 4 with fail
 generalize w2.alloc (.cells #[.pointer (some ⟨ib, 0, none⟩), .slice ca p.cs.length cc, .slice ma p.ms.length mc, .slice q inp.length vc, .int .i64 fuel, .slice none 0 0, .slice none 0 0, .int .i64 0, .int .i64 0, .int .i64 0, .int .i64 0, .int .i64 0, .slice none 0 0, .bool false] 78) = w3 at HB HU2 ⊢
 generalize w2.heap.size = mb at HB ⊢
 have HEN := Lib.hid (menter_any HB.out HOK.out.ok 0 (by omega) [] (by simp) (ap := none) (ac := 0) (ab := 0) (ao := 0) ⟨⟨none, 0, rfl, fun h => absurd rfl h⟩, by simp⟩ (fun _ => rfl) (fun f0 below h => by cases h) (by show 0 ≤ 300000; omega))
 go_wp2_with fail
 refine HEN.out.mono ?_
 rintro e w4 ⟨rfl, ⟨X4, h4⟩, hu4⟩
 have HM4 := Lib.hid h4
 have HU4 := Lib.hid hu4
 clear h4 hu4
 go_wp2_with fail
 go_ret2
 refine ⟨w1.heap.size, _, _, mb, X4, rfl, fun b hb => ?_, HM4.out, ?_⟩
 ·have hz := HU.out.size
  rcases List.mem_append.1 hb with h1 | h1
  ·have := (mem_news.1 h1).1; omega
  ·have h2 := (mem_news.1 h1).1
   have := HU2.out.size
   omega
 ·exact (HU.out.trans HU2.out).trans' HU4.out (fun b hb hl => by
   have h1 := (mem_news.1 hb).1
   have := HU.out.size
   omega)
end Go.Proofs.YtojobkhidlfeoaaDoor

/-! model: what a machine has left, read from memory; Machine.Run. -/
namespace Go.Proofs.YtojobkhidlfeoaaDoor
open Go.RowKit

def cellInt (w : World) (a : Addr) : Int := intOf ((w.cell? a).getD undef)
theorem cellInt_of {w : World} {a : Addr} {n : Int} (h : w.cell? a = some (.int .i64 n)) : cellInt w a = n := by
 unfold cellInt
 rw [h]
 rfl
/-- What is left to be done at most, read from memory. -/
def muW (p : Prg) (w : World) (mb : Nat) : Nat :=
 123 * (cellInt w ⟨mb, 4, none⟩).toNat + match w.cell? ⟨mb, 5, none⟩ with
  | some (.slice (some a) n _) => ((List.range n).map fun i => (p.ms.getD (cellInt w ⟨a.block, i * 4, none⟩).toNat default).code.length + 1 - (cellInt w ⟨a.block, i * 4 + 1, none⟩).toNat).sum
  | _ => 0
theorem fmcells_get : ∀ (fs : List Fm) (vs : List FmV) (i : Nat), vs.length = fs.length → i < fs.length → (fmcells fs vs)[i * 4]? = some (.int .i64 (fs.getD i default).m) ∧ (fmcells fs vs)[i * 4 + 1]? = some (.int .i64 (fs.getD i default).pc)
 | [], _, i, _, h => by simp at h
 | f :: fs, v :: vs, 0, _, _ => ⟨rfl, rfl⟩
 | f :: fs, v :: vs, i + 1, h, h2 => by
  have ih := fmcells_get fs vs i (by simpa using h) (by simpa using h2)
  have e : (i + 1) * 4 = i * 4 + 4 := by omega
  rw [e]
  exact ih
theorem sum_range {α : Type} [Inhabited α] (g : α → Nat) : ∀ (l : List α), ((List.range l.length).map fun i => g (l.getD i default)).sum = (l.map g).sum := by
 intro l
 congr 1
 apply List.ext_getElem
 ·simp
 ·intro i h1 h2
  have h3 : i < l.length := by simpa using h1
  simp [List.getD_eq_getElem?_getD, List.getElem?_eq_getElem h3]
theorem MAt.mu {B : Nat} {w : World} {U R : List Nat} {mb ib : Nat} {p : Prg} {S : Mc} {X : MX} (h : MAt B w U R mb ib p S X) : muW p w mb = S.mu p := by
 have h4 : w.cell? ⟨mb, 4, none⟩ = some (.int .i64 S.fuel) := h.boxc rfl
 have h5 : w.cell? ⟨mb, 5, none⟩ = some X.fv := h.boxc rfl
 unfold muW Mc.mu
 rw [cellInt_of h4, h5, Int.toNat_natCast]
 congr 1
 rcases h.frow.2 with ⟨h1, h2⟩ | ⟨g, c, cur, h1, _⟩
 ·rw [h1, List.eq_nil_of_length_eq_zero h2]
  rfl
 ·rw [h1]
  show ((List.range S.frs.length).map _).sum = _
  have hgl : X.gs.reverse.length = S.frs.reverse.length := by rw [List.length_reverse, List.length_reverse]; exact h.glen
  have e : (S.frs.map (Fm.mu p)).sum = (S.frs.reverse.map (Fm.mu p)).sum := by rw [List.map_reverse, List.sum_reverse]
  rw [e, ← sum_range (Fm.mu p) S.frs.reverse, List.length_reverse]
  congr 1
  refine List.map_congr_left fun i hi => ?_
  have hi2 : i < S.frs.reverse.length := by rw [List.length_reverse]; simpa using hi
  obtain ⟨c0, c1⟩ := fmcells_get S.frs.reverse X.gs.reverse i hgl hi2
  have q0 := World.ownsRow.cells h.frow (g := g) (by rw [h1]; rfl) _ _ c0
  have q1 := World.ownsRow.cells h.frow (g := g) (by rw [h1]; rfl) _ _ c1
  rw [Addr.add_lit, Nat.zero_add] at q0 q1
  rw [cellInt_of q0, cellInt_of q1, Int.toNat_natCast, Int.toNat_natCast]
  rfl
theorem own_low {w : World} {B B' : Nat} {e : TypeId} {sz n : Nat} {v : Value} {xs : List Value} (h : w.ownsRow B e sz v n xs) (hb : B' ≤ B) : w.ownsRow B' e sz v n xs := by
 obtain ⟨h1, h2⟩ := h
 refine ⟨h1, ?_⟩
 rcases h2 with h2 | ⟨g, c, cur, h2, h3, h4⟩
 ·exact .inl h2
 ·exact .inr ⟨g, c, cur, h2, by omega, h4⟩
/-- The cells of an outcome. -/
def outcells (S : Mc) (v : Value) : Array Value := #[.int .i64 (S.fin.getD ⟨0, 0, 0, 0, 0⟩).kind, .int .i64 (S.fin.getD ⟨0, 0, 0, 0, 0⟩).trap, .int .i64 (S.fin.getD ⟨0, 0, 0, 0, 0⟩).meth, .int .i64 (S.fin.getD ⟨0, 0, 0, 0, 0⟩).pc, .int .i64 (S.fin.getD ⟨0, 0, 0, 0, 0⟩).value, v]
set_option maxRecDepth 100000 in
set_option maxHeartbeats 2000000 in
theorem mrun_any {B : Nat} {w : World} {U R : List Nat} {mb ib : Nat} {p : Prg} {S : Mc} {X : MX} {ss : List Lk} (h : MAt B w U R mb ib p S X) (v : Vf p ss) (hS : S.Ok p ss) :
  Calls Tryd.prog 11 #[.pointer (some ⟨mb, 0, none⟩)] w fun e w' => ∃ q vc, e = .returned (.agg (outcells (S.run p) (.slice q (S.run p).out.length vc))) ∧ OwnI w' w.heap.size 2 (.slice q (S.run p).out.length vc) (S.run p).out ∧ (∃ U' R' X', (∀ b ∈ U', b ∈ U ∨ w.heap.size ≤ b) ∧ MAt B w' U' R' mb ib p (S.run p) X') ∧ Upd R w w' := by
 have HUA : Hid (Upd [] w (w.alloc (.cells #[.int .i64 0, .int .i64 0, .int .i64 0, .int .i64 0, .int .i64 0, .slice none 0 0] 25))) := (Upd.refl [] w).alloc _
 have HA := Lib.hid (heap_alloc_new w (.cells #[.int .i64 0, .int .i64 0, .int .i64 0, .int .i64 0, .int .i64 0, .slice none 0 0] 25))
 have H0 : Hid (MAt B (w.alloc (.cells #[.int .i64 0, .int .i64 0, .int .i64 0, .int .i64 0, .int .i64 0, .slice none 0 0] 25)) (U ++ [w.heap.size]) R mb ib p S X) := h.keep HUA.out (by simp) (fun b hb => (List.mem_append.1 hb).imp_right fun hb => by rw [List.mem_singleton] at hb; omega) (fun b hb => List.mem_append.2 (.inl hb))
 have HLOW : Hid (w.heap.size ∉ R) := fun hm => by have := (h.low _ hm).2; omega
 have HSZ : Hid (w.heap.size < (w.alloc (.cells #[.int .i64 0, .int .i64 0, .int .i64 0, .int .i64 0, .int .i64 0, .slice none 0 0] 25)).heap.size) := by show _ < _; simp
 have HV := Lib.hid v
 have HS := Lib.hid hS
 clear h v hS
 go_enter Tryd.func11, Tryd.ntmps11
 go_upto_region 1 with fail
 generalize w.alloc (.cells #[.int .i64 0, .int .i64 0, .int .i64 0, .int .i64 0, .int .i64 0, .slice none 0 0] 25) = wa at H0 HA HUA HSZ ⊢
 obtain ⟨rb, hrb⟩ : ∃ rb, w.heap.size = rb := ⟨_, rfl⟩
 rw [hrb] at H0 HA HLOW HSZ ⊢
 have HRB := Lib.hid hrb
 clear hrb
 go_loopw [5] (fun _ wr => ∃ (T : Mc), Hid (T.Ok p ss) ∧ Hid (T.run p = S.run p) ∧ Hid (Stp B wa wr (U ++ [rb]) R mb ib p T)) (fun _ wr => muW p wr mb)
 case atStart => exact ⟨S, HS.out, rfl, ⟨X, H0.out.new (Upd.refl [] wa)⟩, Upd.refl R wa⟩
 case round =>
  obtain ⟨T, HT, HR, HP⟩ := hrel
  obtain ⟨wo, rfl⟩ : ∃ wo : World, wo = wr := ⟨_, rfl⟩
  obtain ⟨⟨XT, hm⟩, hu⟩ := HP.out
  have HST := Lib.hid (mstep_any hm HV.out HT.out)
  have HMU := Lib.hid hm.mu
  have HUW := Lib.hid hu
  clear hm hu
  cases hfe : (T.step p).fin with
  | none =>
   have HFE := Lib.hid hfe
   clear hfe
   go_wp2_with fail
   refine HST.out.mono ?_
   rintro e w2 ⟨he, h2⟩
   rw [HFE.out] at he
   have he2 : e = .returned (.bool true) := he
   subst he2
   clear he
   have HS2 : Hid (Stp B wa w2 (U ++ [rb]) R mb ib p (T.step p)) := Stp.go HUW.out h2
   clear h2
   go_wp2_with fail
   go_roundw
   case rel => exact ⟨T.step p, (HT.out.step HV.out).1, (HT.out.run_step HV.out).trans HR.out, HS2.out⟩
   case measure =>
    obtain ⟨⟨X2, hm2⟩, _⟩ := HS2.out
    show muW p w2 mb < muW p wo mb
    rw [hm2.mu, HMU.out]
    have hf0 : T.fin = none := Decidable.byContradiction fun e => by
     have h9 := HFE.out
     rw [Mc.step_end e] at h9
     exact e h9
    exact (HT.out.step HV.out).2 hf0 HFE.out
  | some F =>
   have HFE := Lib.hid hfe
   clear hfe
   go_wp2_with fail
   refine HST.out.mono ?_
   rintro e w2 ⟨he, h2⟩
   rw [HFE.out] at he
   have he2 : e = .returned (.bool false) := he
   subst he2
   clear he
   have HS2 : Hid (Stp B wa w2 (U ++ [rb]) R mb ib p (T.step p)) := Stp.go HUW.out h2
   clear h2
   have HRUN : Hid (T.step p = S.run p) := by
    show _ = _
    rw [← HR.out, ← HT.out.run_step HV.out]
    unfold Mc.run
    rw [steps_fin (by rw [HFE.out]; simp)]
   obtain ⟨⟨X2, hm2⟩, hu2⟩ := HS2.out
   rw [HRUN.out] at hm2
   have HOKR := Lib.hid (HS.out.run_ok HV.out)
   obtain ⟨TT, hTT⟩ : ∃ TT, S.run p = TT := ⟨_, rfl⟩
   rw [hTT] at hm2 HOKR
   have HTT := Lib.hid hTT
   clear hTT
   obtain ⟨fk, ft, fm, fp, fv, hF⟩ : ∃ fk ft fm fp fv, TT.fin.getD ⟨0, 0, 0, 0, 0⟩ = ⟨fk, ft, fm, fp, fv⟩ := ⟨_, _, _, _, _, rfl⟩
   have hb2 := hm2.box
   rw [mccells, hF] at hb2
   have HFF := Lib.hid hF
   clear hF
   obtain ⟨up, uc, huv, hun⟩ : ∃ up uc, X2.uv = .slice up TT.out.length uc ∧ (up = none → uc = 0) := by
    rcases hm2.out.2 with ⟨h1, h2⟩ | ⟨g, c, cur, h1, _⟩
    ·exact ⟨none, 0, by rw [h1, h2], fun _ => rfl⟩
    ·exact ⟨_, c, h1, fun h => by cases h⟩
   have hout : OwnI w2 B 2 X2.uv TT.out := hm2.out
   obtain ⟨lb, hlng, _⟩ := hout.lng
   rw [huv] at hlng
   have o7 : w2.cell? ⟨mb, 7, none⟩ = some (.int .i64 fk) := by rw [cell_of hb2]; rfl
   have o8 : w2.cell? ⟨mb, 8, none⟩ = some (.int .i64 ft) := by rw [cell_of hb2]; rfl
   have o9 : w2.cell? ⟨mb, 9, none⟩ = some (.int .i64 fm) := by rw [cell_of hb2]; rfl
   have o10 : w2.cell? ⟨mb, 10, none⟩ = some (.int .i64 fp) := by rw [cell_of hb2]; rfl
   have o11 : w2.cell? ⟨mb, 11, none⟩ = some (.int .i64 fv) := by rw [cell_of hb2]; rfl
   have o12 : w2.cell? ⟨mb, 12, none⟩ = some (.slice up TT.out.length uc) := by rw [cell_of hb2, ← huv]; rfl
   have HM2 := Lib.hid hm2
   have HU2 := Lib.hid hu2
   have HRB2 := Lib.hid (hu2.heap HA.out HLOW.out)
   have hw3 := (Upd.refl [] w2).alloc (.cells #[.int .i64 fk, .int .i64 ft, .int .i64 fm, .int .i64 fp, .int .i64 fv, .slice up TT.out.length uc] 25)
   have HCL := Lib.hid (lclone_any up uc lb 0 TT.out (w2.alloc (.cells #[.int .i64 fk, .int .i64 ft, .int .i64 fm, .int .i64 fp, .int .i64 fv, .slice up TT.out.length uc] 25)) (hlng.upd hw3 (.inr (by simp))) hun (by have := HOKR.out.room; omega))
   have HO3 := Lib.hid (heap_alloc_new w2 (.cells #[.int .i64 fk, .int .i64 ft, .int .i64 fm, .int .i64 fp, .int .i64 fv, .slice up TT.out.length uc] 25))
   have HRB3 := Lib.hid (hw3.heap HRB2.out (by simp))
   have HW3 := Lib.hid hw3
   clear hm2 hu2 hb2 huv hun hout hlng hw3
   go_wp2_with fail
   go_upto_region 3 with fail
   generalize w2.alloc (.cells #[.int .i64 fk, .int .i64 ft, .int .i64 fm, .int .i64 fp, .int .i64 fv, .slice up TT.out.length uc] 25) = w3 at HCL HO3 HRB3 HW3 ⊢
   clear o7 o8 o9 o10 o11 o12
   obtain ⟨ob, hob⟩ : ∃ ob, w2.heap.size = ob := ⟨_, rfl⟩
   rw [hob] at HO3 ⊢
   have HOB := Lib.hid hob
   clear hob
   have o5 : w3.cell? ⟨ob, 5, none⟩ = some (.slice up TT.out.length uc) := by rw [cell_of HO3.out]; rfl
   go_wp2_with fail
   refine HCL.out.mono ?_
   rintro e w4 ⟨q, vc, rfl, ho4, hu4⟩
   have HO4 := Lib.hid (hu4.heap HO3.out (by simp))
   have HRB4 := Lib.hid (hu4.heap HRB3.out (by simp))
   have HOW := Lib.hid ho4
   have HU4 := Lib.hid hu4
   clear ho4 hu4 o5
   have c0 : w4.cell? ⟨ob, 0, none⟩ = some (.int .i64 fk) := by rw [cell_of HO4.out]; rfl
   have c1 : w4.cell? ⟨ob, 1, none⟩ = some (.int .i64 ft) := by rw [cell_of HO4.out]; rfl
   have c2 : w4.cell? ⟨ob, 2, none⟩ = some (.int .i64 fm) := by rw [cell_of HO4.out]; rfl
   have c3 : w4.cell? ⟨ob, 3, none⟩ = some (.int .i64 fp) := by rw [cell_of HO4.out]; rfl
   have c4 : w4.cell? ⟨ob, 4, none⟩ = some (.int .i64 fv) := by rw [cell_of HO4.out]; rfl
   have c5 : w4.cell? ⟨ob, 5, none⟩ = some (.slice up TT.out.length uc) := by rw [cell_of HO4.out]; rfl
   have cz := froz_of HO4.out
   have r0 : w4.cell? ⟨rb, 0, none⟩ = some (.int .i64 0) := by rw [cell_of HRB4.out]; rfl
   have r1 : w4.cell? ⟨rb, 1, none⟩ = some (.int .i64 0) := by rw [cell_of HRB4.out]; rfl
   have r2 : w4.cell? ⟨rb, 2, none⟩ = some (.int .i64 0) := by rw [cell_of HRB4.out]; rfl
   have r3 : w4.cell? ⟨rb, 3, none⟩ = some (.int .i64 0) := by rw [cell_of HRB4.out]; rfl
   have r4 : w4.cell? ⟨rb, 4, none⟩ = some (.int .i64 0) := by rw [cell_of HRB4.out]; rfl
   have r5 : w4.cell? ⟨rb, 5, none⟩ = some (.slice none 0 0) := by rw [cell_of HRB4.out]; rfl
   have rz := froz_of HRB4.out
   have hne : ob ≠ rb := fun e => by have h1 := HUW.out.size; have h2 := HU2.out.size; have := HSZ.out; have := HOB.out; omega
   go_upto_region 4 with fail
   have HO5 := Lib.hid (heap_setCell HO4.out 5 (.slice q TT.out.length vc))
   have hu5 : Upd [ob] w4 (w4.setCell ⟨ob, 5, none⟩ (.slice q TT.out.length vc)) := (Upd.refl [ob] w4).setCell (.inl (by simp)) _
   have HRB5 := Lib.hid (hu5.heap HRB4.out (fun hm => by rw [List.mem_singleton] at hm; exact hne hm.symm))
   have HU5 := Lib.hid hu5
   clear c0 c1 c2 c3 c4 c5 r0 r1 r2 r3 r4 r5 rz cz hu5
   generalize w4.setCell ⟨ob, 5, none⟩ (.slice q TT.out.length vc) = w5 at HO5 HRB5 HU5 ⊢
   have c0 : w5.cell? ⟨ob, 0, none⟩ = some (.int .i64 fk) := by rw [cell_of HO5.out]; rfl
   have c1 : w5.cell? ⟨ob, 1, none⟩ = some (.int .i64 ft) := by rw [cell_of HO5.out]; rfl
   have c2 : w5.cell? ⟨ob, 2, none⟩ = some (.int .i64 fm) := by rw [cell_of HO5.out]; rfl
   have c3 : w5.cell? ⟨ob, 3, none⟩ = some (.int .i64 fp) := by rw [cell_of HO5.out]; rfl
   have c4 : w5.cell? ⟨ob, 4, none⟩ = some (.int .i64 fv) := by rw [cell_of HO5.out]; rfl
   have c5 : w5.cell? ⟨ob, 5, none⟩ = some (.slice q TT.out.length vc) := by rw [cell_of HO5.out]; rfl
   have r0 : w5.cell? ⟨rb, 0, none⟩ = some (.int .i64 0) := by rw [cell_of HRB5.out]; rfl
   have r1 : w5.cell? ⟨rb, 1, none⟩ = some (.int .i64 0) := by rw [cell_of HRB5.out]; rfl
   have r2 : w5.cell? ⟨rb, 2, none⟩ = some (.int .i64 0) := by rw [cell_of HRB5.out]; rfl
   have r3 : w5.cell? ⟨rb, 3, none⟩ = some (.int .i64 0) := by rw [cell_of HRB5.out]; rfl
   have r4 : w5.cell? ⟨rb, 4, none⟩ = some (.int .i64 0) := by rw [cell_of HRB5.out]; rfl
   have r5 : w5.cell? ⟨rb, 5, none⟩ = some (.slice none 0 0) := by rw [cell_of HRB5.out]; rfl
   have rz := froz_of HRB5.out
   have k6 := (heap_setCell (heap_setCell (heap_setCell (heap_setCell (heap_setCell (heap_setCell HRB5.out 0 (.int .i64 fk)) 1 (.int .i64 ft)) 2 (.int .i64 fm)) 3 (.int .i64 fp)) 4 (.int .i64 fv)) 5 (.slice q TT.out.length vc))
   have d0 := cell_of k6 0
   have d1 := cell_of k6 1
   have d2 := cell_of k6 2
   have d3 := cell_of k6 3
   have d4 := cell_of k6 4
   have d5 := cell_of k6 5
   simp at d0 d1 d2 d3 d4 d5
   have hu6 : Upd [rb] w5 ((((((w5.setCell ⟨rb, 0, none⟩ (.int .i64 fk)).setCell ⟨rb, 1, none⟩ (.int .i64 ft)).setCell ⟨rb, 2, none⟩ (.int .i64 fm)).setCell ⟨rb, 3, none⟩ (.int .i64 fp)).setCell ⟨rb, 4, none⟩ (.int .i64 fv)).setCell ⟨rb, 5, none⟩ (.slice q TT.out.length vc)) := ((((((Upd.refl [rb] w5).setCell (.inl (by simp)) _).setCell (.inl (by simp)) _).setCell (.inl (by simp)) _).setCell (.inl (by simp)) _).setCell (.inl (by simp)) _).setCell (.inl (by simp)) _
   have HU6 := Lib.hid hu6
   clear k6 hu6
   go_wp2_with fail
   refine bodyPost_ret (v := .agg #[.int .i64 fk, .int .i64 ft, .int .i64 fm, .int .i64 fp, .int .i64 fv, .slice q TT.out.length vc]) (by simp [results, Tryd.results11, go_sem, d0, d1, d2, d3, d4, d5]) rfl ?_
   have h24 : Upd [] w2 w4 := HW3.out.trans HU4.out
   have h25 : Upd [] w2 w5 := h24.trans' HU5.out (fun b hb hl => by rw [List.mem_singleton] at hb; have := HOB.out; omega)
   have h26 : Upd [rb] w2 ((((((w5.setCell ⟨rb, 0, none⟩ (.int .i64 fk)).setCell ⟨rb, 1, none⟩ (.int .i64 ft)).setCell ⟨rb, 2, none⟩ (.int .i64 fm)).setCell ⟨rb, 3, none⟩ (.int .i64 fp)).setCell ⟨rb, 4, none⟩ (.int .i64 fv)).setCell ⟨rb, 5, none⟩ (.slice q TT.out.length vc)) := (h25.mono (by simp)).trans' HU6.out (fun b hb _ => hb)
   have hrbU : rb ∈ (U ++ [rb]) ++ news wa w2 := by simp
   rw [HTT.out]
   refine ⟨q, vc, by unfold outcells; rw [HFF.out], ?_, ⟨(U ++ [rb]) ++ news wa w2, R ++ news wa w2, X2, fun b hb => ?_, ?_⟩, ?_⟩
   ·have hz4 : w4.heap.size ≤ w4.heap.size := Nat.le_refl _
    have hob3 : ob < w3.heap.size := by
     have h1 := HO3.out
     exact (Array.getElem?_eq_some_iff.1 h1).1
    have hrb3 : rb < w3.heap.size := (Array.getElem?_eq_some_iff.1 HRB3.out).1
    have hw3w : w.heap.size ≤ w3.heap.size := by
     have h1 := HUA.out.size
     have h2 := HU2.out.size
     have h3 := HW3.out.size
     omega
    have h1 := row_upd HOW.out HU5.out (fun k hk hm => by
     rw [List.mem_singleton] at hm
     have := World.ownsRow.lt HOW.out k hk
     omega)
    have h2 := row_upd h1 HU6.out (fun k hk hm => by
     rw [List.mem_singleton] at hm
     have := World.ownsRow.lt h1 k hk
     omega)
    exact own_low h2 hw3w
   ·rcases List.mem_append.1 hb with h1 | h1
    ·rcases List.mem_append.1 h1 with h2 | h2
     ·exact .inl h2
     ·rw [List.mem_singleton] at h2
      exact .inr (by rw [h2, ← HRB.out]; exact Nat.le_refl _)
    ·have h2 := (mem_news.1 h1).1
     have := HUA.out.size
     exact .inr (by omega)
   ·refine HM2.out.keep h26 (fun b hb => ?_) (fun b hb => .inl hb) (fun b hb => hb)
    rw [List.mem_singleton] at hb
    subst hb
    refine ⟨hrbU, fun hm => ?_⟩
    rcases List.mem_append.1 hm with h1 | h1
    ·exact HLOW.out h1
    ·have := (mem_news.1 h1).1
     have := HSZ.out
     omega
   ·refine ((HUA.out.mono (T := R) (by simp)).trans' HU2.out (fun b hb _ => hb)).trans' h26 (fun b hb hl => ?_)
    rw [List.mem_singleton] at hb
    have := HRB.out
    omega
end Go.Proofs.YtojobkhidlfeoaaDoor

/-! model.Run. -/
namespace Go.Proofs.YtojobkhidlfeoaaDoor
open Go.RowKit

set_option maxRecDepth 100000 in
set_option maxHeartbeats 2000000 in
theorem mgo_any {w : World} {ib : Nat} {p : Prg} {ss : List Lk} {n : Int} (h : InfoAt w ib p ss n) (v : Vf p ss) (ip : Option Addr) (ic b o : Nat) (inp : List Int) (hi : LngV w (.slice ip inp.length ic) b o inp) (hip : ip = none → ic = 0) (hin : inp.length ≤ 100000) (hin2 : ∀ x ∈ inp, in64 x) (fuel : Nat) (hf : fuel ≤ 2000) :
  Calls Tryd.prog 9 #[.pointer (some ⟨ib, 0, none⟩), .slice ip inp.length ic, .int .i64 fuel] w fun e w' => ∃ q vc, e = .returned (.tuple #[.agg (outcells ((Mc.new p inp fuel).run p) (.slice q ((Mc.new p inp fuel).run p).out.length vc)), .nilIface]) ∧ OwnI w' w.heap.size 2 (.slice q ((Mc.new p inp fuel).run p).out.length vc) ((Mc.new p inp fuel).run p).out ∧ Upd [] w w' := by
 have hu := (Upd.refl [] w).alloc (.cells #[.int .i64 0, .int .i64 0, .int .i64 0, .int .i64 0, .int .i64 0, .slice none 0 0] 25)
 have HA := Lib.hid (heap_alloc_new w (.cells #[.int .i64 0, .int .i64 0, .int .i64 0, .int .i64 0, .int .i64 0, .slice none 0 0] 25))
 have HNEW := Lib.hid (mnew_any (h.upd hu) v ip ic b o inp (hi.upd hu (.inr (by simp))) hip hin fuel hf)
 have HU := Lib.hid hu
 have HV := Lib.hid v
 have HOK := Lib.hid (Mc.Ok.new v hin2 hf)
 clear h v hi hu hin2
 go_enter Tryd.func9, Tryd.ntmps9
 go_upto_region 1 with fail
 generalize w.alloc (.cells #[.int .i64 0, .int .i64 0, .int .i64 0, .int .i64 0, .int .i64 0, .slice none 0 0] 25) = w1 at HA HNEW HU ⊢
 obtain ⟨rb, hrb⟩ : ∃ rb, w.heap.size = rb := ⟨_, rfl⟩
 rw [hrb] at HA ⊢
 have HRB := Lib.hid hrb
 clear hrb
 go_wp2_with fail
 refine HNEW.out.mono ?_
 rintro e w2 ⟨B, U, R, mb, X, rfl, hlow, hm, hu2⟩
 have hrbl : rb < w1.heap.size := (Array.getElem?_eq_some_iff.1 HA.out).1
 have HRUN := Lib.hid (mrun_any hm HV.out HOK.out)
 have hsub := hm.sub
 have HNR : Hid (rb ∉ R) := fun hm => by have := hlow _ (hsub _ hm); omega
 have HLR : Hid (∀ q ∈ R, w1.heap.size ≤ q) := fun q hq => hlow q (hsub q hq)
 have HA2 := Lib.hid (hu2.heap HA.out (by simp))
 have HU2 := Lib.hid hu2
 clear hlow hm hu2 hsub
 have HRL := Lib.hid hrbl
 clear hrbl
 obtain ⟨TT, hTT⟩ : ∃ TT, (Mc.new p inp fuel).run p = TT := ⟨_, rfl⟩
 rw [hTT] at HRUN
 have HTT := Lib.hid hTT
 clear hTT
 obtain ⟨fk, ft, fm, fp, fv, hF⟩ : ∃ fk ft fm fp fv, TT.fin.getD ⟨0, 0, 0, 0, 0⟩ = ⟨fk, ft, fm, fp, fv⟩ := ⟨_, _, _, _, _, rfl⟩
 have HFF := Lib.hid hF
 clear hF
 go_wp2_with fail
 refine HRUN.out.mono ?_
 rintro e w3 ⟨q, vc, he, ho3, _, hu3⟩
 unfold outcells at he
 rw [HFF.out] at he
 have he2 : e = .returned (.agg #[.int .i64 fk, .int .i64 ft, .int .i64 fm, .int .i64 fp, .int .i64 fv, .slice q TT.out.length vc]) := he
 subst he2
 clear he
 have HA3 := Lib.hid (hu3.heap HA2.out HNR.out)
 have HU3 := Lib.hid hu3
 have HO3 := Lib.hid ho3
 clear hu3 ho3
 have r0 : w3.cell? ⟨rb, 0, none⟩ = some (.int .i64 0) := by rw [cell_of HA3.out]; rfl
 have r1 : w3.cell? ⟨rb, 1, none⟩ = some (.int .i64 0) := by rw [cell_of HA3.out]; rfl
 have r2 : w3.cell? ⟨rb, 2, none⟩ = some (.int .i64 0) := by rw [cell_of HA3.out]; rfl
 have r3 : w3.cell? ⟨rb, 3, none⟩ = some (.int .i64 0) := by rw [cell_of HA3.out]; rfl
 have r4 : w3.cell? ⟨rb, 4, none⟩ = some (.int .i64 0) := by rw [cell_of HA3.out]; rfl
 have r5 : w3.cell? ⟨rb, 5, none⟩ = some (.slice none 0 0) := by rw [cell_of HA3.out]; rfl
 have rz := froz_of HA3.out
 have k6 := (heap_setCell (heap_setCell (heap_setCell (heap_setCell (heap_setCell (heap_setCell HA3.out 0 (.int .i64 fk)) 1 (.int .i64 ft)) 2 (.int .i64 fm)) 3 (.int .i64 fp)) 4 (.int .i64 fv)) 5 (.slice q TT.out.length vc))
 have d0 := cell_of k6 0
 have d1 := cell_of k6 1
 have d2 := cell_of k6 2
 have d3 := cell_of k6 3
 have d4 := cell_of k6 4
 have d5 := cell_of k6 5
 simp at d0 d1 d2 d3 d4 d5
 have hu6 : Upd [rb] w3 ((((((w3.setCell ⟨rb, 0, none⟩ (.int .i64 fk)).setCell ⟨rb, 1, none⟩ (.int .i64 ft)).setCell ⟨rb, 2, none⟩ (.int .i64 fm)).setCell ⟨rb, 3, none⟩ (.int .i64 fp)).setCell ⟨rb, 4, none⟩ (.int .i64 fv)).setCell ⟨rb, 5, none⟩ (.slice q TT.out.length vc)) := ((((((Upd.refl [rb] w3).setCell (.inl (by simp)) _).setCell (.inl (by simp)) _).setCell (.inl (by simp)) _).setCell (.inl (by simp)) _).setCell (.inl (by simp)) _).setCell (.inl (by simp)) _
 have HU6 := Lib.hid hu6
 clear k6 hu6
 go_wp2_with fail
 refine bodyPost_ret (v := .tuple #[.agg #[.int .i64 fk, .int .i64 ft, .int .i64 fm, .int .i64 fp, .int .i64 fv, .slice q TT.out.length vc], .nilIface]) (by simp [results, Tryd.results9, go_sem, d0, d1, d2, d3, d4, d5]) rfl ?_
 rw [HTT.out]
 have hw1 := HU.out.size
 have hw2 := HU2.out.size
 have hrb := HRB.out
 refine ⟨q, vc, by unfold outcells; rw [HFF.out], ?_, ?_⟩
 ·have h1 := row_upd HO3.out HU6.out (fun k hk hm => by
   rw [List.mem_singleton] at hm
   have := World.ownsRow.lt HO3.out k hk
   have := HRL.out
   omega)
  exact own_low h1 (by omega)
 ·refine ((HU.out.trans HU2.out).trans' HU3.out (fun q hq hl => ?_)).trans' HU6.out (fun q hq hl => ?_)
  ·have := HLR.out q hq
   omega
  ·rw [List.mem_singleton] at hq
   omega
end Go.Proofs.YtojobkhidlfeoaaDoor
