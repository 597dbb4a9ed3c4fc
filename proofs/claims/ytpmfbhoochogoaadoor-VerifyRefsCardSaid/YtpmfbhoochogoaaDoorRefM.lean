/- VerifyRefs: the law's method: it may be, and it is verified. -/
import Derived.Test.YtpmfbhoochogoaaDoorWithL
import Derived.Test.YtpmfbhoochogoaaDoorVerL10
namespace Go.Proofs.YtpmfbhoochogoaaDoor
open Go.RowKit

/-- The law's method. -/
def refM (bl bp : List Bool) : Meth := ⟨⟨#[]⟩, bs (lets bl), ⟨#[]⟩, refC bp⟩

theorem refC_easy (bp : List Bool) : (refC bp).all easy = true := by
  unfold refC
  rw [List.all_append, List.all_append]
  have h1 : (bp.map pushI).all easy = true := by
    rw [List.all_map]
    refine List.all_eq_true.2 (fun x _ => ?_)
    cases x <;> decide
  have h2 : (List.replicate bp.length (⟨6, 0, 0, 0⟩ : Ins)).all easy = true := List.all_eq_true.2 (fun x hx => by
    rw [List.eq_of_mem_replicate hx]; decide)
  rw [h1, h2]
  decide
theorem lets_letters (bl : List Bool) : lettersB (bs (lets bl)) = true := by
  rw [lettersB_true]
  intro i hi
  have hs : (bs (lets bl)).size = bl.length := by rw [bs_size, lets_len]
  have e : (bs (lets bl)).get! i = (lets bl).getD i 0 := by
    show (lets bl).toArray[i]! = _
    rw [getElem!_pos _ i (by rw [List.size_toArray, lets_len]; omega), List.getElem_toArray, List.getD_eq_getElem?_getD, List.getElem?_eq_getElem (by rw [lets_len]; omega)]
    rfl
  rw [e]
  have hm : (lets bl).getD i 0 ∈ lets bl := by
    rw [List.getD_eq_getElem?_getD, List.getElem?_eq_getElem (by rw [lets_len]; omega)]; exact List.getElem_mem _
  unfold lets at hm
  obtain ⟨b, _, hb⟩ := List.mem_map.1 hm
  unfold lets
  rw [← hb]
  cases b
  · exact .inl rfl
  · exact .inr rfl
theorem refM_ok (bl bp : List Bool) (h1 : bl.length ≤ 12) (h2 : bp.length ≤ 12) : (withM (refM bl bp)).Ok := by
  have two : ∀ j, j < (withM (refM bl bp)).ms.length → j = 0 ∨ j = 1 := by intro j hj; have : (withM (refM bl bp)).ms.length = 2 := rfl; omega
  have hl := refC_len bp
  have hs : (bs (lets bl)).size = bl.length := by rw [bs_size, lets_len]
  refine ⟨by show 1 ≤ 12; omega, by show 1 ≤ 2; omega, by show 2 ≤ 12; omega, fun j hj => ?_, fun j hj => ?_, fun j hj q hq => ?_⟩
  · obtain rfl : j = 0 := by have : (withM (refM bl bp)).cs.length = 1 := rfl; omega
    show clsCode ⟨#[73, 82]⟩ = 0
    decide +kernel
  · rcases two j hj with rfl | rfl
    · show headCode 0 ⟨ByteArray.empty, ByteArray.empty, ByteArray.empty, [⟨33, 0, 0, 0⟩]⟩ = 0
      decide +kernel
    · show headCode 1 (refM bl bp) = 0
      unfold headCode
      rw [if_neg (by
        show ¬ (12 < 0 ∨ (12 : Int) - ((0 : Nat) : Int) < ((bs (lets bl)).size : Int) ∨ (refC bp).length < 1 ∨ 120 < (refC bp).length)
        omega), if_neg]
      rintro (h | h | h | ⟨h, _⟩)
      · exact h (show lettersB ⟨#[]⟩ = true by decide +kernel)
      · exact h (lets_letters bl)
      · exact h (show retOk ⟨#[]⟩ by decide +kernel)
      · omega
  · rcases two j hj with rfl | rfl
    · obtain rfl : q = 0 := by have h : q < 1 := hq; omega
      show insCode _ _ _ ⟨33, 0, 0, 0⟩ = 0
      exact easy_code (by decide)
    · exact easy_code (easy_get (refC_easy bp) hq)
theorem refM_len (bl bp : List Bool) : (refM bl bp).code.length = 2 * bp.length + 1 := refC_len bp
theorem refM_kinds (bl bp : List Bool) : kindsL (refM bl bp) = lets bl := by
  unfold kindsL
  show (⟨#[]⟩ : ByteArray).toList ++ (bs (lets bl)).toList = _
  rw [bs_list, show (⟨#[]⟩ : ByteArray).toList = [] from empty_toList]
  rfl
theorem ref_seen (n : Nat) (st : Nat → List UInt8) : (strS (2 * n + 1) st (2 * n + 1) (2 * n)).seen.getD n false = true := by
  show ((List.range (2 * n + 1)).map fun j => decide (j ≤ 2 * n)).getD n false = true
  rw [List.getD_eq_getElem?_getD, List.getElem?_map, List.getElem?_range (by omega)]
  simp; omega
theorem lets_asc (bl bp : List Bool) : ∀ c ∈ lets bl ++ lets bp, c.toNat < 128 := by
  intro c hc
  have h : ∀ l : List Bool, c ∈ lets l → c.toNat < 128 := fun l hm => by
    unfold lets at hm
    obtain ⟨b, _, hb⟩ := List.mem_map.1 hm
    rw [← hb]
    cases b <;> decide
  rcases List.mem_append.1 hc with h1 | h1
  · exact h bl h1
  · exact h bp h1
theorem refM_all (bl bp : List Bool) (h2 : bp.length ≤ 12) : ∀ j, j < (withM (refM bl bp)).ms.length → ∃ s, lookM (withM (refM bl bp)) ((withM (refM bl bp)).ms.getD j default) = .ok s := by
  intro j hj
  have : j = 0 ∨ j = 1 := by have h : (withM (refM bl bp)).ms.length = 2 := rfl; omega
  rcases this with rfl | rfl
  · exact ret_first _
  · exact ⟨_, ref_ok bp h2 _ _ rfl rfl⟩
end Go.Proofs.YtpmfbhoochogoaaDoor
