/- HeapFills: plain laws; contracts of Words of the document. -/
import Derived.Test.YtlkflkgohclbmaaDoorAny
import Derived.Test.YtlkflkgohclbmaaDoorSorted2
namespace Go.Proofs.YtlkflkgohclbmaaDoor
open Go.RowKit

theorem lessN_all (out : List Int) (x : Int) (h : ∀ y ∈ out, y < x) : lessN out x = out.length := by
  unfold lessN
  induction out with
  | nil => rfl
  | cons a t ih =>
    rw [List.takeWhile_cons, if_pos (by simpa using h a (by simp))]
    simp [ih (fun y hy => h y (by simp [hy]))]

theorem insL_all (out : List Int) (x : Int) (h : ∀ y ∈ out, y < x) : insL out x = out ++ [x] := by
  unfold insL
  rw [lessN_all out x h, if_neg (by simp)]
  simp

/-- A rising row is what it is sorted. -/
theorem sortL_rising (l : List Int) (h : ∀ i j, i < j → j < l.length → l.getD i 0 < l.getD j 0) : sortL l = l := by
  have key : ∀ k, k ≤ l.length → sortL (l.take k) = l.take k := by
    intro k
    induction k with
    | zero => intro _; simp [sortL]
    | succ k ih =>
      intro hk
      rw [sortL_take l k (by omega), ih (by omega), insL_all]
      · rw [List.take_add_one, List.getElem?_eq_getElem (by omega), List.getD_eq_getElem?_getD, List.getElem?_eq_getElem (by omega)]; rfl
      · intro y hy
        obtain ⟨i, hi, rfl⟩ := List.getElem_of_mem hy
        have hik : i < k := by simp at hi; omega
        have := h i k hik (by omega)
        rw [List.getElem_take]
        rw [List.getD_eq_getElem?_getD, List.getElem?_eq_getElem (by omega)] at this
        simpa using this
  have := key l.length (Nat.le_refl _)
  rwa [List.take_length] at this

/-- So many R. -/
def repR (k : Nat) : ByteArray := ⟨(List.replicate k (82 : UInt8)).toArray⟩
theorem repR_size (k : Nat) : (repR k).size = k := by simp [repR, ByteArray.size]
theorem repR_succ (k : Nat) : repR k ++ ⟨#[82]⟩ = repR (k + 1) := by
  apply ByteArray.ext
  apply Array.ext'
  simp [repR, List.replicate_succ']

set_option maxHeartbeats 400000 in
theorem words3_class (cv mv : Value) (b o k : Nat) (n : Int) (cs : List ByteArray) (w : World) (h : ClsAt w cv b o cs) (hk : k < cs.length) (_hs : cs.length ≤ 1000) (hz : (cs.getD k ByteArray.empty).size ≤ 1000) :
    Calls Tryd.prog 25 #[.agg #[cv, mv], .int .i64 k, .int .i64 n] w fun e w' => e = .returned (.int .i64 (2 + (cs.getD k ByteArray.empty).size)) ∧ Upd [] w w' := by
  obtain ⟨hv, hc⟩ := h
  obtain ⟨cap, rfl⟩ : ∃ cap, cv = .slice (some ⟨b, o, none⟩) cs.length cap := by
    rcases hv with ⟨_, ha⟩ | ⟨x, cap, hv, ha | rfl⟩
    · rw [ha] at hk; simp at hk
    · rw [ha] at hk; simp at hk
    · exact ⟨cap, hv⟩
  clear hv
  have hcell := ((Upd.refl [] w).alloc (.cells #[.slice (some ⟨b, o, none⟩) cs.length cap, mv] 32)).cell (hc k hk) (by simp)
  clear hc
  generalize cs.getD k ByteArray.empty = fs at *
  go_enter Tryd.func25, Tryd.ntmps25
  go_wp2_with fail
  go_ret
  exact ⟨rfl, (Upd.refl _ _).alloc _⟩

set_option maxHeartbeats 400000 in
theorem words3_array (cv mv : Value) (c n : Int) (w : World) (hc0 : c < 0) (h0 : 0 ≤ n) (h1 : n ≤ 1000) :
    Calls Tryd.prog 25 #[.agg #[cv, mv], .int .i64 c, .int .i64 n] w fun e w' => e = .returned (.int .i64 (2 + n)) ∧ Upd [] w w' := by
  go_enter Tryd.func25, Tryd.ntmps25
  go_wp2_with fail
  go_ret
  exact ⟨rfl, (Upd.refl _ _).alloc _⟩

end Go.Proofs.YtlkflkgohclbmaaDoor
