/- The frame of a law's row: what all rows of this seat share. -/
import Derived.Test.YtbcoejmiihgfoaaDoorCards
import Derived.Test.YtbcoejmiihgfoaaDoorTie
import Derived.Test.YtbcoejmiihgfoaaDoorLib
import Derived.ProofKit
import Derived.LaidMore
import Derived.OpenShut
import Derived.Stop.Joined
import Derived.SevenTiedAt
import Derived.Deep.Slices
namespace Go.Proofs.YtbcoejmiihgfoaaDoor
open Go.ChangeShapes Go.WideShapes Go.ChangeAt Go.RowKit

theorem Tryd.own : ownKnob Tryd.prog.godebug = none := by kernel_rfl
theorem Tryd.laidOut : laidOutB Tryd.prog = true := by kernel_rfl

theorem below_trodAll {H : Type} {enc : TypeId × Value → H} {P : Program} (hl : laidOutB P = true) {W W' : World} (hb : Below W.heap.size W W') :
  ∀ (ts : List TypeId) (vs : List Value) (ds : List (DataW H)) (ps : List MemPlace), (ts.all fun t => P.readableRec t && decide (t < P.types.size)) = true →
   DataW.TrodAll enc P W 0 (fun _ => true) true ts vs ds ps → (∀ x ∈ ps, x.block < W.heap.size) →
   DataW.TrodAll enc P W' 0 (fun b => decide (b < W.heap.size)) true ts vs ds ps
 | [], vs, ds, ps, _, h, _ => by
  obtain ⟨rfl, rfl, rfl⟩ := trodAll_nil h
  exact trodAll_mk0
 | t :: ts, vs, ds, ps, hr, h, hlt => by
  obtain ⟨v, vs', d, ds', p, q, rfl, rfl, rfl, h1, h2⟩ := trodAll_cons h
  simp only [List.all_cons, Bool.and_eq_true, decide_eq_true_eq] at hr
  exact trodAll_cons_mk (Below.trod hl hr.1.1 hr.1.2 h1 hb (fun x hx => hlt x (by simp [hx]))) (below_trodAll hl hb ts vs' ds' q (by simpa using hr.2) h2 (fun x hx => hlt x (by simp [hx])))

theorem law_post {H : Type} {enc : TypeId × Value → H} {s : ChangeSpec} {fn : Func} {W W' : World} {args : Array Value} {ds gs : List (DataW H)} {before : List MemPlace}
  (hts : (fn.params.toList.all fun t => Tryd.prog.readableRec t && decide (t < Tryd.prog.types.size)) = true)
  (hW : DataW.Whole enc Tryd.prog fn.params.toList s.vars false W args.toList ds gs before) (hvars : s.vars = [])
  (hspec : (s.fn H (ds ++ gs)).results = [.lit (.bool true)] ∧ (s.fn H (ds ++ gs)).args = ds ∧ (s.fn H (ds ++ gs)).vars = [])
  (hres : fn.resultTypes = #[4]) (hb : Below W.heap.size W W') : s.post enc Tryd.prog fn false true false false W args (.bool true) W' := by
 have hW' := hW
 obtain ⟨p, q, hA, hV, rfl, hfz, hnd⟩ := hW
 rw [hvars] at hV
 obtain ⟨rfl, rfl⟩ := trodVars_none hV
 simp only [List.append_nil] at hW'
 refine ⟨ds, [], p, [], p, [], hW', ?_, ?_, ?_, hb.frame _, fun h => by cases h⟩
 ·rw [hspec.1, hres]
  exact trodAll_cons_mk (shut_bool Tryd.underlying4 _) trodAll_mk0
 ·rw [hspec.2.1]
  exact below_trodAll Tryd.laidOut hb _ _ _ _ hts hA (fun x hx => hW'.lt x (by simpa using hx))
 ·rw [hspec.2.2, hvars]
  rfl

theorem bd_i64 {n : Int} (h : (Lit.int .i64 n).wf = true) : -9223372036854775808 ≤ n ∧ n ≤ 9223372036854775807 := by
 simpa [Lit.wf, IntKind.min, IntKind.max, IntKind.signed, IntKind.bits] using h

/-- A slice value reads as these integers. -/
def IntsAt (W : World) (v : Value) (xs : List Int) : Prop :=
 ∃ a cap, v = .slice a xs.length cap ∧ xs.length ≤ cap ∧ cap ≤ maxLen ∧ (∀ x ∈ xs, -9223372036854775808 ≤ x ∧ x ≤ 9223372036854775807) ∧
  (xs = [] ∨ ∃ b o, a = some ⟨b, o, none⟩ ∧ ∀ i, i < xs.length → W.cell? ⟨b, o + i, none⟩ = some (.int .i64 (xs.getD i 0)))

theorem open_i64s {H : Type} {enc : TypeId × Value → H} {t e : TypeId} {W : World} {v : Value} {d : DataW H} {p : List MemPlace} (ht : Tryd.prog.underlying t = some (.slice e)) (he : Tryd.prog.underlying e = some (.int .i64)) (hc : Tryd.prog.cellsOf e = 1)
  (hval : ∃ a len cap, v = .slice a len cap) (h : DataW.Trod enc Tryd.prog W 0 (fun _ => true) true t v d p) : ∃ xs, IntsAt W v xs := by
 obtain ⟨a0, len, cap, rfl⟩ := hval
 obtain ⟨fuel, hf⟩ := h
 rcases open_ints ht he hc hf with ⟨hcs, hx⟩ | ⟨a, len', cap', zs, hcs, _, hl, hm, hz, hx, hcell, hwz⟩
 ·simp [Value.cells] at hcs
  obtain ⟨rfl, rfl, rfl⟩ := hcs
  exact ⟨[], none, 0, rfl, by simp, by simp, by simp, .inl rfl⟩
 ·simp [Value.cells] at hcs
  obtain ⟨rfl, rfl, rfl⟩ := hcs
  simp at hz
  have hlen : (zs.take len).length = len := by simp; omega
  refine ⟨zs.take len, some a, cap, by rw [hlen], by rw [hlen]; exact hl, hm, fun x hx => bd_i64 (hwz x (List.mem_of_mem_take hx)), ?_⟩
  by_cases h0 : len = 0
  ·left; subst h0; simp
  ·right
   obtain ⟨b, off, rfl, hc'⟩ := ints_at hcell (by omega)
   refine ⟨b, off, rfl, fun i hi => ?_⟩
   rw [hlen] at hi
   rw [hc' i (by omega)]
   simp [hi]

end Go.Proofs.YtbcoejmiihgfoaaDoor
