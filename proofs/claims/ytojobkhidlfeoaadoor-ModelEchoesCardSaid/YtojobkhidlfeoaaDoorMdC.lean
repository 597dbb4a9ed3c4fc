/- What a program means, plain: inputs are put out one by one. -/
import Derived.Test.YtojobkhidlfeoaaDoorMdS
namespace Go.Proofs.YtojobkhidlfeoaaDoor

def echoP : Prg := ⟨[], [⟨ByteArray.empty, ByteArray.empty, ByteArray.empty, [⟨34, 0, 0, 0⟩, ⟨35, 0, 0, 0⟩, ⟨22, 0, 0, 0⟩]⟩]⟩
theorem echoP_ok : Vf echoP echoP.looks := by
 refine ⟨Prg.ok_of (by kernel_rfl), Prg.looks_of (by kernel_rfl), Prg.bd_of ?_⟩
 intro m hm x hx
 simp only [echoP, List.mem_singleton] at hm
 subst hm
 simp only [List.mem_cons, List.not_mem_nil, or_false] at hx
 rcases hx with rfl | rfl | rfl <;> exact ins_bd (by omega) in_0
theorem steps_1 (p : Prg) (S : Mc) : Mc.steps p 1 S = S.step p := rfl
/-- So many rounds are done. -/
def echoS (inp : List Int) (F k : Nat) : Mc := ⟨[⟨0, 0, [], []⟩], [], inp.drop k, F - k, inp.take k, none⟩
theorem echo_in {inp out : List Int} {F : Nat} {n : Int} : Mc.steps echoP 2 ⟨[⟨0, 0, [], []⟩], [], n :: inp, F, out, none⟩ = ⟨[⟨0, 2, [], []⟩], [], inp, F, out ++ [n], none⟩ := by kernel_rfl
theorem echo_back {inp out : List Int} {F : Nat} : Mc.step echoP ⟨[⟨0, 2, [], []⟩], [], inp, F + 1, out, none⟩ = ⟨[⟨0, 0, [], []⟩], [], inp, F, out, none⟩ := by kernel_rfl
theorem echo_fuel {inp out : List Int} : Mc.step echoP ⟨[⟨0, 2, [], []⟩], [], inp, 0, out, none⟩ = ⟨[⟨0, 2, [], []⟩], [], inp, 0, out, some ⟨3, 0, 0, 2, 0⟩⟩ := by kernel_rfl
theorem echo_end {out : List Int} {F : Nat} : Mc.step echoP ⟨[⟨0, 0, [], []⟩], [], [], F, out, none⟩ = ⟨[⟨0, 0, [], []⟩], [], [], F, out, some ⟨2, 6, 0, 0, 0⟩⟩ := by kernel_rfl
theorem drop_cons {α : Type} [Inhabited α] {l : List α} {k : Nat} (h : k < l.length) : l.drop k = l.getD k default :: l.drop (k + 1) := by
 rw [List.drop_eq_getElem_cons h, List.getD_eq_getElem?_getD, List.getElem?_eq_getElem h]
 rfl
theorem take_succ' {α : Type} [Inhabited α] {l : List α} {k : Nat} (h : k < l.length) : l.take (k + 1) = l.take k ++ [l.getD k default] := by
 rw [List.take_succ_eq_append_getElem h, List.getD_eq_getElem?_getD, List.getElem?_eq_getElem h]
 rfl
theorem echo_round (inp : List Int) (F : Nat) : ∀ k, k ≤ F → k ≤ inp.length → Mc.steps echoP (3 * k) (Mc.new echoP inp F) = echoS inp F k
 | 0, _, _ => by
  show Mc.new echoP inp F = _
  unfold echoS
  rw [List.drop_zero, List.take_zero, Nat.sub_zero]
  kernel_rfl
 | k + 1, h1, h2 => by
  rw [show 3 * (k + 1) = 3 * k + (2 + 1) by omega, steps_add, echo_round inp F k (by omega) (by omega)]
  unfold echoS
  rw [drop_cons (show k < inp.length by omega), steps_add, echo_in, show F - k = F - (k + 1) + 1 by omega, steps_1, echo_back, take_succ' (show k < inp.length by omega)]
theorem echo_run (inp : List Int) (F : Nat) (hi : ∀ x ∈ inp, in64 x) (hF : F ≤ 2000) :
  (F < inp.length → ((Mc.new echoP inp F).run echoP).fin = some ⟨3, 0, 0, 2, 0⟩ ∧ ((Mc.new echoP inp F).run echoP).out = inp.take (F + 1)) ∧
  (inp.length ≤ F → ((Mc.new echoP inp F).run echoP).fin = some ⟨2, 6, 0, 0, 0⟩ ∧ ((Mc.new echoP inp F).run echoP).out = inp) := by
 have h0 := Mc.Ok.new echoP_ok (inp := inp) (fuel := F) hi hF
 refine ⟨fun h => ?_, fun h => ?_⟩
 ·have h1 : Mc.steps echoP (3 * F + (2 + 1)) (Mc.new echoP inp F) = ⟨[⟨0, 2, [], []⟩], [], inp.drop (F + 1), 0, inp.take (F + 1), some ⟨3, 0, 0, 2, 0⟩⟩ := by
   rw [steps_add, echo_round inp F F (by omega) (by omega)]
   unfold echoS
   rw [drop_cons h, steps_add, echo_in, Nat.sub_self, steps_1, echo_fuel, take_succ' h]
  rw [← h0.run_is echoP_ok (k := 3 * F + (2 + 1)) (by rw [h1]; intro e; cases e), h1]
  exact ⟨rfl, rfl⟩
 ·have h1 : Mc.steps echoP (3 * inp.length + 1) (Mc.new echoP inp F) = ⟨[⟨0, 0, [], []⟩], [], [], F - inp.length, inp, some ⟨2, 6, 0, 0, 0⟩⟩ := by
   rw [steps_add, echo_round inp F inp.length (by omega) (by omega)]
   unfold echoS
   rw [List.drop_length, List.take_length, steps_1, echo_end]
  rw [← h0.run_is echoP_ok (k := 3 * inp.length + 1) (by rw [h1]; intro e; cases e), h1]
  exact ⟨rfl, rfl⟩
end Go.Proofs.YtojobkhidlfeoaaDoor
