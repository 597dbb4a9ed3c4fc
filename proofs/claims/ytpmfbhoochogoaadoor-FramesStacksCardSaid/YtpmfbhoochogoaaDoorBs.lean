/- Strings as lists of bytes. No program in sight. -/
import Derived.Test.YtpmfbhoochogoaaDoorVerL
import Derived.Lib.Strings
namespace Go.Proofs.YtpmfbhoochogoaaDoor

/-- The string of these bytes. -/
def bs (l : List UInt8) : ByteArray := ⟨l.toArray⟩
theorem bs_list (l : List UInt8) : (bs l).toList = l := by rw [ByteArray.toList_eq]; rfl
theorem bs_of (s : ByteArray) : bs s.toList = s := by
  rw [ByteArray.toList_eq]
  obtain ⟨⟨l⟩⟩ := s
  rfl
theorem bs_size (l : List UInt8) : (bs l).size = l.length := by simp [bs, ByteArray.size]
theorem size_list (s : ByteArray) : s.size = s.toList.length := by rw [ByteArray.toList_eq]; exact Lib.size_eq s
theorem list_extract (s : ByteArray) (a b : Nat) : (s.extract a b).toList = (s.toList.drop a).take (b - a) := by
  rw [Lib.extract_toList, ByteArray.toList_eq]
theorem list_append (a b : ByteArray) : (a ++ b).toList = a.toList ++ b.toList := by
  rw [ByteArray.toList_eq, ByteArray.toList_eq, ByteArray.toList_eq]
  obtain ⟨⟨l⟩⟩ := a
  obtain ⟨⟨m⟩⟩ := b
  simp
theorem bs_append (a b : List UInt8) : bs a ++ bs b = bs (a ++ b) := by
  rw [← bs_of (bs a ++ bs b), list_append, bs_list, bs_list]
theorem bs_extract (l : List UInt8) (a b : Nat) : (bs l).extract a b = bs ((l.drop a).take (b - a)) := by
  rw [← bs_of ((bs l).extract a b), list_extract, bs_list]
theorem bs_inj {a b : List UInt8} (h : bs a = bs b) : a = b := by rw [← bs_list a, h, bs_list]
theorem bs_eq {s : ByteArray} {l : List UInt8} (h : s.toList = l) : s = bs l := by rw [← h, bs_of]
/-- A letter of a text. -/
theorem at_extract (s : ByteArray) (i : Nat) (h : i < s.size) : (s.extract i (i + 1)).toList = atB s.toList i := by
  rw [list_extract]
  have h1 : i < s.toList.length := by rw [← size_list]; exact h
  unfold atB
  rw [if_pos ⟨by omega, by omega⟩, show i + 1 - i = 1 by omega, List.drop_eq_getElem_cons h1, List.take_succ_cons, List.take_zero, Int.toNat_natCast, List.getD_eq_getElem?_getD, List.getElem?_eq_getElem h1]
  rfl
end Go.Proofs.YtpmfbhoochogoaaDoor
