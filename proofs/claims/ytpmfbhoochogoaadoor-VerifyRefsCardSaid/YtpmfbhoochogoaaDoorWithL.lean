/- What laws about one method share: its first method is verified; instructions that may be wherever they stand. -/
import Derived.Test.YtpmfbhoochogoaaDoorWithW
import Derived.Test.YtpmfbhoochogoaaDoorFirst7
import Derived.Test.YtpmfbhoochogoaaDoorVerL5
import Derived.Test.YtpmfbhoochogoaaDoorFaultA
namespace Go.Proofs.YtpmfbhoochogoaaDoor
open Go.RowKit

theorem and_3 (a : Int) : bits BinOp.and IntKind.i64 a 3 = a % 4 := and_mask a 2 3 (by omega) (by decide)
def bdS (x : Ins) : Bool := decide (-1000 ≤ x.op ∧ x.op ≤ 1000 ∧ -1000 ≤ x.a ∧ x.a ≤ 1000 ∧ -1000 ≤ x.b ∧ x.b ≤ 1000 ∧ -1000 ≤ x.n ∧ x.n ≤ 1000)
theorem bdS_all {xs : List Ins} (h : xs.all bdS = true) : ∀ i, i < xs.length → (xs.getD i default).bd := by
  intro i hi
  have h2 := List.all_eq_true.1 h (xs.getD i default) (by rw [List.getD_eq_getElem?_getD, List.getElem?_eq_getElem hi]; exact List.getElem_mem hi)
  have h3 := of_decide_eq_true h2
  unfold Ins.bd
  omega
theorem ret_first (m : Meth) : ∃ s, lookM (withM m) ((withM m).ms.getD 0 default) = .ok s := by
  have hr : Row (withM m) ((withM m).ms.getD 0 default) (fun _ => []) 0 := ⟨by show 0 < 1; omega, rfl, fun i hi => by omega, fun i hi => by omega⟩
  have hx : (((withM m).ms.getD 0 default).code.getD 0 default).op = 33 := rfl
  refine ⟨_, hr.ret ?_ (nextL_ret (by show 0 < 1; omega) hx)⟩
  have he := eff_ret (withM m) ((withM m).ms.getD 0 default) _ hx
  have he2 : effL (withM m) ((withM m).ms.getD 0 default) (((withM m).ms.getD 0 default).code.getD 0 default) = some ([], []) := by rw [he]; show some (ByteArray.empty.toList, []) = _; rw [empty_toList]
  exact behL_of (u := []) (by rw [hx]; decide) (by rw [hx]; decide) (by rw [hx]; decide) he2 (by decide) (.inr rfl)
theorem OwnX.from {w : World} {B B' : Nat} {v : Value} {xs : List Ins} (h : OwnX w B v xs) (hb : B' ≤ B) : OwnX w B' v xs := row_base h hb
/-- An instruction that may be wherever it stands. -/
def easy (x : Ins) : Bool := decide (x.a = 0) && decide (x.b = 0) && decide (x.op = 1 ∨ x.n = 0) && decide (x.op = 1 ∨ x.op = 2 ∨ x.op = 6 ∨ x.op = 7 ∨ x.op = 8 ∨ x.op = 31 ∨ x.op = 33 ∨ x.op = 34 ∨ x.op = 35) && decide (-1000 ≤ x.n ∧ x.n ≤ 1000)
theorem easy_is {x : Ins} (h : easy x = true) : x.a = 0 ∧ x.b = 0 ∧ (x.op = 1 ∨ x.n = 0) ∧ (x.op = 1 ∨ x.op = 2 ∨ x.op = 6 ∨ x.op = 7 ∨ x.op = 8 ∨ x.op = 31 ∨ x.op = 33 ∨ x.op = 34 ∨ x.op = 35) ∧ -1000 ≤ x.n ∧ x.n ≤ 1000 := by
  simp only [easy, Bool.and_eq_true, decide_eq_true_eq] at h
  exact ⟨h.1.1.1.1, h.1.1.1.2, h.1.1.2, h.1.2, h.2⟩
theorem easy_code {cs : List ByteArray} {nm : Nat} {m : Meth} {x : Ins} (h : easy x = true) : insCode cs nm m x = 0 := by
  obtain ⟨ha, hb, hn, ho, _⟩ := easy_is h
  unfold insCode
  rw [if_neg (by omega), if_neg (by omega), if_neg (by omega), if_neg (by omega), if_neg (by omega), if_neg (by omega), if_neg]
  rintro (⟨_, h1⟩ | ⟨_, h1⟩ | ⟨h1, h2⟩)
  · exact h1 ha
  · exact h1 hb
  · omega
theorem easy_get {l : List Ins} (h : l.all easy = true) {q : Nat} (hq : q < l.length) : easy (l.getD q default) = true :=
  List.all_eq_true.1 h _ (by rw [List.getD_eq_getElem?_getD, List.getElem?_eq_getElem hq]; exact List.getElem_mem hq)
theorem easy_small {l : List Ins} (h : l.all easy = true) : ∀ i, i < l.length → (l.getD i default).bd := by
  intro i hi
  obtain ⟨ha, hb, _, ho, h1, h2⟩ := easy_is (easy_get h hi)
  unfold Ins.bd
  omega
theorem easy_ok {l : List Ins} (h : l.all easy = true) (h1 : 1 ≤ l.length) (h2 : l.length ≤ 120) : (withM (plainM l)).Ok := by
  have two : ∀ j, j < (withM (plainM l)).ms.length → j = 0 ∨ j = 1 := by intro j hj; have : (withM (plainM l)).ms.length = 2 := rfl; omega
  refine ⟨by show 1 ≤ 12; omega, by show 1 ≤ 2; omega, by show 2 ≤ 12; omega, fun j hj => ?_, fun j hj => ?_, fun j hj q hq => ?_⟩
  · obtain rfl : j = 0 := by have : (withM (plainM l)).cs.length = 1 := rfl; omega
    show clsCode ⟨#[73, 82]⟩ = 0
    decide +kernel
  · rcases two j hj with rfl | rfl
    · show headCode 0 ⟨ByteArray.empty, ByteArray.empty, ByteArray.empty, [⟨33, 0, 0, 0⟩]⟩ = 0
      decide +kernel
    · show headCode 1 (plainM l) = 0
      unfold headCode
      rw [if_neg (by
        show ¬ (12 < 0 ∨ (12 : Int) - ((0 : Nat) : Int) < ((0 : Nat) : Int) ∨ l.length < 1 ∨ 120 < l.length)
        omega), if_neg]
      rintro (h | h | h | ⟨h, _⟩)
      · exact h (show lettersB ByteArray.empty = true by decide +kernel)
      · exact h (show lettersB ByteArray.empty = true by decide +kernel)
      · exact h (show retOk ByteArray.empty by decide +kernel)
      · omega
  · rcases two j hj with rfl | rfl
    · obtain rfl : q = 0 := by have h : q < 1 := hq; omega
      show insCode _ _ _ ⟨33, 0, 0, 0⟩ = 0
      exact easy_code (by decide)
    · exact easy_code (easy_get h hq)
end Go.Proofs.YtpmfbhoochogoaaDoor
