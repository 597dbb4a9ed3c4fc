/- The look at a method, plain: two ways that meet. -/
import Derived.Test.YtjndigfmemdmjaaDoorVerL6
namespace Go.Proofs.YtjndigfmemdmjaaDoor

/-- The programs of the law's: the second method is this. -/
def withM (m : Meth) : Prg := ⟨[⟨#[73, 82]⟩], [⟨ByteArray.empty, ByteArray.empty, ByteArray.empty, [⟨33, 0, 0, 0⟩]⟩, m]⟩
def plainM (l : List Ins) : Meth := ⟨ByteArray.empty, ByteArray.empty, ByteArray.empty, l⟩
def faultL : Except (Int × Nat) Lk → Int
  | .ok _ => 0
  | .error e => e.1
/-- An integer, or no object. -/
def pushI (r : Bool) : Ins := if r then ⟨2, 0, 0, 0⟩ else ⟨1, 0, 0, 1⟩
def twice : Nat → List Ins
  | 0 => []
  | n + 1 => ⟨5, 0, 0, 0⟩ :: ⟨6, 0, 0, 0⟩ :: twice n
def meetC (a b : Bool) (n : Nat) : List Ins := [⟨34, 0, 0, 0⟩, ⟨23, 4, 0, 0⟩, pushI a, ⟨22, 5, 0, 0⟩, pushI b] ++ twice n ++ [⟨6, 0, 0, 0⟩, ⟨33, 0, 0, 0⟩]
theorem empty_toList : ByteArray.empty.toList = [] := by
  unfold ByteArray.toList ByteArray.toList.loop
  rfl
set_option maxRecDepth 100000 in
theorem meet_fault (a b : Bool) (n : Nat) (hn : n < 4) : faultL (lookM (withM (plainM (meetC a b n))) (plainM (meetC a b n))) = if a = b then 0 else 109 := by
  have h : n = 0 ∨ n = 1 ∨ n = 2 ∨ n = 3 := by omega
  rcases h with rfl | rfl | rfl | rfl <;> cases a <;> cases b <;> decide +kernel

end Go.Proofs.YtjndigfmemdmjaaDoor
