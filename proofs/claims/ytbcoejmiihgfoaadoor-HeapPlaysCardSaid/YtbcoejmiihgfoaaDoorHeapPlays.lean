/- HeapPlays holds: for every input the law returns true and leaves its arguments as they were; its card, tied to the program's text. No further condition. -/
import Derived.Lay
import Derived.Test.YtbcoejmiihgfoaaDoorFrame
import Derived.Test.YtbcoejmiihgfoaaDoorOpenT
import Derived.Test.YtbcoejmiihgfoaaDoorOpenP
import Derived.Test.YtbcoejmiihgfoaaDoorOpenD
import Derived.Test.YtbcoejmiihgfoaaDoorSentA
import Derived.Test.YtbcoejmiihgfoaaDoorHpX
namespace Go.Proofs.YtbcoejmiihgfoaaDoor.heapPlays
open Go.ChangeShapes Go.WideShapes Go.ChangeAt Go.RowKit
theorem door_met (os : Os) (args : Array Value) : laidMetH Tryd.prog Rows.heapPlaysRow.laid ((World.laidAll Tryd.prog os Rows.heapPlaysRow.laid).forCall (fun _ _ => 0) ⟨#[], args, []⟩).memory :=
 by rw [MakeChecks.laidMetH_plain _ _ _ (by kernel_rfl)]; exact laidMet_laidAll _ (by kernel_rfl) (by kernel_rfl)
theorem readable : (Tryd.f3.params.toList.all fun t => Tryd.prog.readableRec t && decide (t < Tryd.prog.types.size)) = true := by kernel_rfl
theorem resT : Tryd.f3.resultTypes = #[4] := by kernel_rfl
set_option maxRecDepth 100000 in
theorem lifted (os : Os) (started : os.Started) (H : Type) (enc : TypeId × Value → H) :
  ReturnsInHanded {} Tryd.checked os 3 .any (fun w args => (Rows.heapPlaysSpec.pre enc Tryd.prog Tryd.f3 [] false w args ∧ laidMetH Tryd.prog Rows.heapPlaysRow.laid w) ∧ sizedMet enc Tryd.prog Tryd.f3 (OpenSpec.ofChange Rows.heapPlaysSpec) false w args)
   (Rows.heapPlaysSpec.post enc Tryd.prog Tryd.f3 false true false false) := by
 refine returnsInHanded_of_change_and (C := Tryd.checked) (X := fun w _ => laidMetH Tryd.prog Rows.heapPlaysRow.laid w) (fun _ _ _ hh h => h.of_heap hh) Tryd.own started (by kernel_rfl) Tryd.func3
  (ChangeSpec.witness_shaped (enc := enc) (C := Tryd.checked) (os := os) (X := fun w _ => laidMetH Tryd.prog Rows.heapPlaysRow.laid w) false (World.laidAll Tryd.prog os Rows.heapPlaysRow.laid) #[.agg #[.slice none 0 0, .slice none 0 0], .int .i64 0, .int .i64 0, .slice none 0 0, .int .i64 0, .int .i64 0] 8 (World.laidAll_os _ _ _) (World.shaped_of_ZipB (by kernel_rfl) (by kernel_rfl)) (by kernel_rfl) (by kernel_rfl) (by kernel_rfl) (door_met os _)) ?_
 intro W base args ds gs before hval0 hW _ hsz hL _
 have hval : ∀ (j : Nat) t v, Tryd.f3.params[j]? = some t → args[j]? = some v → Value.okWide Tryd.prog W .any base t v := hval0
 have hW' := hW
 obtain ⟨p, q, hA0, hV, rfl, hfz, hnd⟩ := hW
 have hA : DataW.TrodAll enc Tryd.prog W 0 (fun _ => true) true Tryd.f3.params.toList args.toList ds p := hA0
 rw [Tryd.params3] at hA hval
 obtain ⟨v0, vs0, d0, ds0, p0, q0, hargs, rfl, rfl, h0, r0⟩ := trodAll_cons hA
 obtain ⟨v1, vs1, d1, ds1, p1, q1, rfl, rfl, rfl, h1, r1⟩ := trodAll_cons r0
 obtain ⟨v2, vs2, d2, ds2, p2, q2, rfl, rfl, rfl, h2, r2⟩ := trodAll_cons r1
 obtain ⟨v3, vs3, d3, ds3, p3, q3, rfl, rfl, rfl, h3, r3⟩ := trodAll_cons r2
 obtain ⟨v4, vs4, d4, ds4, p4, q4, rfl, rfl, rfl, h4, r4⟩ := trodAll_cons r3
 obtain ⟨v5, vs5, d5, ds5, p5, q5, rfl, rfl, rfl, h5, r5⟩ := trodAll_cons r4
 obtain ⟨rfl, rfl, rfl⟩ := trodAll_nil r5
 obtain rfl : args = #[v0, v1, v2, v3, v4, v5] := by cases args; simp_all
 obtain ⟨rfl, rfl⟩ := trodVars_none hV
 obtain ⟨cv0, mv0, cs0, ms0, rfl, hc0, hm0⟩ := open_program2 (hval 0 25 v0 rfl rfl) h0
 obtain ⟨x1, rfl, rfl, rfl, wx1⟩ := open_int Tryd.underlying3 (hval 1 3 v1 rfl rfl) h1
 have bd1 := bd_i64 wx1
 obtain ⟨x2, rfl, rfl, rfl, wx2⟩ := open_int Tryd.underlying3 (hval 2 3 v2 rfl rfl) h2
 have bd2 := bd_i64 wx2
 obtain ⟨xs3, hx3⟩ := open_dos (okWide_slice Tryd.underlying26 (hval 3 26 v3 rfl rfl)) h3
 obtain ⟨x4, rfl, rfl, rfl, wx4⟩ := open_int Tryd.underlying3 (hval 4 3 v4 rfl rfl) h4
 have bd4 := bd_i64 wx4
 obtain ⟨x5, rfl, rfl, rfl, wx5⟩ := open_int Tryd.underlying3 (hval 5 3 v5 rfl rfl) h5
 have bd5 := bd_i64 wx5
 rw [MakeChecks.laidMetH_plain _ _ _ (by kernel_rfl)] at hL
 have hTZ := tz_of_laidT hL
 have hL2 := hL.tail
 obtain ⟨E, hE⟩ := sentAll_of_laid hL2
 obtain ⟨la, lc, hle, kx1, kx2, kx3⟩ := hx3
 subst hle
 refine (hplays_any E ⟨cs0, ms0⟩ cv0 mv0 x1 x2 x4 x5 la xs3 lc W hE hTZ hc0 hm0 ⟨la, lc, rfl, kx1, kx2, kx3⟩ bd1 bd2 bd4 bd5).mono fun e W' ⟨he, hu⟩ => ?_
 subst he
 exact ⟨_, rfl, law_post readable hW' rfl ⟨rfl, rfl, rfl⟩ resT hu.below⟩
theorem said : Rows.HeapPlaysSaid :=
 OpenClaim.holds_of_wide 3 Tryd.f3 rfl rfl rfl rfl rfl rfl rfl ⟨rfl, rfl, rfl, rfl, rfl⟩ rfl rfl rfl rfl rfl (by kernel_rfl) Tryd.func3 (by kernel_rfl)
  (of_decide_eq_true (by kernel_rfl)) (by unfold Func.isWrapper; first | (rw [if_pos (by decide +kernel)]; kernel_rfl) | (rw [if_neg (by decide +kernel)]; exact ⟨rfl, rfl⟩))
  (fun os started H enc _ => lifted os started H enc)
theorem plain (f : FuncId) (fn : Func) (hf : Tryd.pinned.checked.prog.funcNamed "overdrive/overdrivelaw11.HeapPlays" = some f) (hfn : Tryd.pinned.checked.prog.funcs[f]? = some fn) :
  true = Tryd.pinned.checked.prog.looks [] ∧ ∀ (j : Nat) t, fn.params[j]? = some t → Tryd.pinned.checked.prog.wantsStandIn t = false := by
 obtain rfl : f = 3 := Option.some.inj ((show Tryd.prog.funcNamed "overdrive/overdrivelaw11.HeapPlays" = some 3 by kernel_rfl).symm.trans hf) |>.symm
 obtain rfl : fn = Tryd.f3 := (Option.some.inj (Tryd.func3.symm.trans hfn)).symm
 refine ⟨by kernel_rfl, fun j t ht => ?_⟩
 rw [Tryd.params3] at ht
 have hm : t ∈ [25, 3, 3, 26, 3, 3] := by simpa using Array.mem_of_getElem? ht
 have hall : ([25, 3, 3, 26, 3, 3].all fun u => !Tryd.prog.wantsStandIn u) = true := by kernel_rfl
 exact (show Tryd.prog.wantsStandIn t = false by simpa using List.all_eq_true.1 hall t hm)
theorem card : Rows.HeapPlaysCardSaid :=
 Claim7.holds_tied_plain_at .later [] _ _ _ _ said (fun _ h => by cases h) (by kernel_rfl) (fun _ h => by cases h) heapPlays_row_tie rfl ⟨rfl, rfl⟩ (by kernel_rfl) rfl plain (by kernel_rfl)
#print axioms card
end Go.Proofs.YtbcoejmiihgfoaaDoor.heapPlays
