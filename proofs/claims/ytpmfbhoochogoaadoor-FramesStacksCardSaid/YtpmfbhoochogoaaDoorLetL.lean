/- Letters: what strings.Trim says of a text, plain. -/
import Derived.Test.YtpmfbhoochogoaaDoorBs
import Derived.Test.YtpmfbhoochogoaaDoorMayL
import Derived.Lib.SlTrimSet
namespace Go.Proofs.YtpmfbhoochogoaaDoor

theorem dropWhile_nil {α : Type} (p : α → Bool) (l : List α) : l.dropWhile p = [] ↔ ∀ x ∈ l, p x = true := by
  induction l with
  | nil => simp
  | cons a t ih =>
    rw [List.dropWhile_cons]
    split
    · rename_i h; simp [ih, h]
    · rename_i h; simp [h]
theorem mem_takeW {α : Type} (p : α → Bool) : ∀ (l : List α) (x : α), x ∈ l.takeWhile p → p x = true
  | [], _, h => by simp at h
  | a :: t, x, h => by
    rw [List.takeWhile_cons] at h
    split at h
    · rename_i ha
      rcases List.mem_cons.1 h with rfl | h2
      · exact ha
      · exact mem_takeW p t x h2
    · simp at h
theorem trim_nil (l cs : List UInt8) : Lib.trimS l cs = [] ↔ ∀ x ∈ l, cs.contains x = true := by
  unfold Lib.trimS Lib.trimLeftS Lib.trimRightS
  rw [dropWhile_nil]
  constructor
  · intro h x hx
    have h2 : x ∈ l.reverse.takeWhile (cs.contains ·) ++ l.reverse.dropWhile (cs.contains ·) := by rw [List.takeWhile_append_dropWhile]; simpa using hx
    rcases List.mem_append.1 h2 with h3 | h3
    · exact mem_takeW _ _ _ h3
    · exact h x (by simpa using h3)
  · intro h x hx
    have h2 : x ∈ l.reverse.dropWhile (cs.contains ·) := by simpa using hx
    exact h x (by simpa using (List.dropWhile_sublist _).subset h2)
theorem get_list (s : ByteArray) (i : Nat) (h : i < s.size) : s.toList[i]? = some (s.get! i) := by
  rw [ByteArray.toList_eq]
  obtain ⟨⟨l⟩⟩ := s
  have h' : i < l.length := h
  show l[i]? = some ((⟨⟨l⟩⟩ : ByteArray).get! i)
  rw [List.getElem?_eq_getElem h']
  congr 1
  show _ = (⟨l⟩ : Array UInt8)[i]!
  simp [h']
theorem letters_trim (s : ByteArray) : Lib.trimS s.data.toList [73, 82] = [] ↔ lettersB s = true := by
  rw [trim_nil, lettersB_true, ← ByteArray.toList_eq]
  constructor
  · intro h i hi
    have := h (s.get! i) (List.mem_of_getElem? (get_list s i hi))
    simpa using this
  · intro h x hx
    obtain ⟨i, hi, rfl⟩ := List.getElem_of_mem hx
    have h1 : i < s.size := by rw [size_list]; exact hi
    have h2 := get_list s i h1
    rw [List.getElem?_eq_getElem hi] at h2
    rw [Option.some.inj h2]
    simpa using h i h1
end Go.Proofs.YtpmfbhoochogoaaDoor
