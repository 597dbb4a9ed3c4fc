/- overdrivelaw7.with, func2; code of one's own. -/
import Derived.Test.YtpmfbhoochogoaaDoorFirstL
import Derived.Test.YtpmfbhoochogoaaDoorVerL5
namespace Go.Proofs.YtpmfbhoochogoaaDoor
open Go.RowKit

theorem xcells_app : ∀ a b : List Ins, xcells (a ++ b) = xcells a ++ xcells b
  | [], _ => rfl
  | x :: t, b => by simp only [List.cons_append, xcells, xcells_app t b]
/-- Code of one's own. -/
def OwnX (w : World) (B : Nat) (v : Value) (xs : List Ins) : Prop := w.ownsRow B 27 4 v xs.length (xcells xs)
theorem OwnX.upd {w w' : World} {B : Nat} {v : Value} {xs : List Ins} (h : OwnX w B v xs) (hu : Upd [] w w') : OwnX w' B v xs := row_upd h hu (by simp)
theorem OwnX.nil (w : World) (B : Nat) : OwnX w B (.slice none 0 0) [] := ⟨rfl, .inl ⟨rfl, rfl⟩⟩
theorem OwnX.shape {w : World} {B : Nat} {v : Value} {xs : List Ins} (h : OwnX w B v xs) : ∃ p c, v = .slice p xs.length c := by
  rcases h.2 with ⟨h1, h2⟩ | ⟨g, c, cur, h1, _⟩
  · exact ⟨none, 0, by rw [h1, h2]⟩
  · exact ⟨_, c, h1⟩
theorem OwnX.lt {w : World} {B : Nat} {v : Value} {xs : List Ins} (h : OwnX w B v xs) (k : Nat) (hk : v.ownBlock = some k) : B ≤ k ∧ k < w.heap.size := by
  rcases h.2 with ⟨h1, h2⟩ | ⟨g, c, cur, h1, h3, h4, _⟩
  · rw [h1] at hk; simp [Value.ownBlock] at hk
  · rw [h1] at hk
    simp only [Value.ownBlock, Option.some.injEq] at hk
    subst hk
    exact ⟨h3, lt_of_heap h4⟩
theorem OwnX.code {w : World} {B : Nat} {v : Value} {xs : List Ins} (h : OwnX w B v xs) (hb : ∀ i, i < xs.length → (xs.getD i default).bd) : CodeAt w v xs := by
  rcases h.2 with ⟨h1, h2⟩ | ⟨g, c, cur, h1, h3, h4, h5, h6, h7, h8⟩
  · have hxs : xs = [] := List.eq_nil_of_length_eq_zero h2
    subst hxs
    exact ⟨none, 0, h1, Nat.le_refl _, by unfold maxLen; omega, by simp⟩
  · refine ⟨_, c, h1, h5, h6, fun i hi => ⟨g, 0, rfl, hb i hi, ?_⟩⟩
    obtain ⟨g0, g1, g2, g3⟩ := xcells_get xs i hi
    have cell : ∀ j u, (xcells xs)[j]? = some u → w.cell? ⟨g, 0 + j, none⟩ = some u := fun j u hj => by
      have := World.ownsRow.cells h (g := g) (by rw [h1]; rfl) j u hj
      rwa [Addr.add_lit] at this
    exact ⟨cell _ _ g0, cell _ _ g1, cell _ _ g2, cell _ _ g3⟩
theorem OwnX.lit (w : World) (B : Nat) (xs : List Ins) (hB : B ≤ w.heap.size) (hl : xs.length ≤ 1000) : OwnX (w.alloc (.cells (xcells xs).toArray 27)) B (.slice (some ⟨w.heap.size, 0, none⟩) xs.length xs.length) xs := by
  refine ⟨by rw [xcells_len], .inr ⟨w.heap.size, xs.length, _, rfl, hB, heap_alloc_new w _, Nat.le_refl _, by unfold maxLen; omega, by simp [xcells_len], ?_⟩⟩
  show (xcells xs).take (xs.length * 4) = _
  rw [List.take_of_length_le (by rw [xcells_len]; exact Nat.le_refl _)]
theorem OwnX.push {w w' : World} {B n : Nat} {v v' : Value} {xs ys : List Ins} {o : Obj} (h : OwnX w B v xs) (hn : xs.length + ys.length = n) (hown : w'.ownsRow B 27 4 v' n (xcells xs ++ xcells ys)) (hgr : (w.alloc o).grownBy w' v.ownBlock) :
    OwnX w' B v' (xs ++ ys) ∧ Upd v.ownBlock.toList w w' ∧ (∀ k ∈ v.ownBlock.toList, B ≤ k ∧ k < w.heap.size) := by
  subst hn
  refine ⟨by unfold OwnX; rw [List.length_append, xcells_app]; exact hown, ((Upd.refl _ w).alloc o).grown hgr (fun q hq => Or.inl (Option.mem_toList.2 hq)), fun k hk => h.lt k (Option.mem_toList.1 hk)⟩

set_option maxRecDepth 100000 in
set_option maxHeartbeats 1000000 in
theorem func2_any (r : Bool) (w : World) : Calls Tryd.prog 12 #[.bool r] w fun e w' => e = .returned (.agg #[.int .i64 (pushI r).op, .int .i64 0, .int .i64 0, .int .i64 (pushI r).n]) ∧ Upd [] w w' := by
  cases r with
  | true =>
    go_enter Tryd.func12, Tryd.ntmps12
    go_wp2_with fail
    refine bodyPost_ret (v := .agg #[.int .i64 2, .int .i64 0, .int .i64 0, .int .i64 0]) (by simp [results, Tryd.results12, go_sem]) rfl ?_
    exact ⟨rfl, by first | exact (Upd.refl _ _).alloc _ | exact (((((Upd.refl _ _).alloc _).setCell (Or.inr (by simp)) _).setCell (Or.inr (by simp)) _).setCell (Or.inr (by simp)) _).setCell (Or.inr (by simp)) _⟩
  | false =>
    go_enter Tryd.func12, Tryd.ntmps12
    go_wp2_with fail
    refine bodyPost_ret (v := .agg #[.int .i64 1, .int .i64 0, .int .i64 0, .int .i64 1]) (by simp [results, Tryd.results12, go_sem]) rfl ?_
    exact ⟨rfl, by first | exact (Upd.refl _ _).alloc _ | exact (((((Upd.refl _ _).alloc _).setCell (Or.inr (by simp)) _).setCell (Or.inr (by simp)) _).setCell (Or.inr (by simp)) _).setCell (Or.inr (by simp)) _⟩

set_option maxRecDepth 100000 in
set_option maxHeartbeats 2000000 in
theorem with_any (m : Meth) (kv : Value) (w : World) (hc : CodeAt w kv m.code) (hz : m.sz) :
    Calls Tryd.prog 13 #[.agg #[.string m.params, .string m.locals, .string m.ret, kv]] w fun e w' => ∃ cv mv, e = .returned (.agg #[cv, mv]) ∧ ClassAt w' cv (withM m).cs ∧ MethsAt w' mv (withM m).ms ∧ Upd [] w w' := by
  obtain ⟨kp, kc, rfl, hkc⟩ := id hc
  go_enter Tryd.func13, Tryd.ntmps13
  go_wp2_with fail
  have hu2 := ((Upd.refl [] w).alloc (.cells #[.string m.params, .string m.locals, .string m.ret, .slice kp m.code.length kc] 39)).alloc (.cells #[.slice (some ⟨w.heap.size + 1 + 1, 0, none⟩) 1 1, .slice (some ⟨w.heap.size + 1 + 1 + 1 + 1, 0, none⟩) 2 2] 25)
  have hr2 := heap_alloc_new (w.alloc (.cells #[.string m.params, .string m.locals, .string m.ret, .slice kp m.code.length kc] 39)) (.cells #[.slice (some ⟨w.heap.size + 1 + 1, 0, none⟩) 1 1, .slice (some ⟨w.heap.size + 1 + 1 + 1 + 1, 0, none⟩) 2 2] 25)
  rw [show (w.alloc (.cells #[.string m.params, .string m.locals, .string m.ret, .slice kp m.code.length kc] 39)).heap.size = w.heap.size + 1 by simp] at hr2
  have z2 : ((w.alloc (.cells #[.string m.params, .string m.locals, .string m.ret, .slice kp m.code.length kc] 39)).alloc (.cells #[.slice (some ⟨w.heap.size + 1 + 1, 0, none⟩) 1 1, .slice (some ⟨w.heap.size + 1 + 1 + 1 + 1, 0, none⟩) 2 2] 25)).heap.size = w.heap.size + 1 + 1 := by simp
  generalize (w.alloc (.cells #[.string m.params, .string m.locals, .string m.ret, .slice kp m.code.length kc] 39)).alloc (.cells #[.slice (some ⟨w.heap.size + 1 + 1, 0, none⟩) 1 1, .slice (some ⟨w.heap.size + 1 + 1 + 1 + 1, 0, none⟩) 2 2] 25) = w2 at hu2 hr2 z2 ⊢
  have hu3 := (Upd.refl [] w2).alloc (.cells #[.string ⟨#[73, 82]⟩] 71)
  have hc3 := heap_alloc_new w2 (.cells #[.string ⟨#[73, 82]⟩] 71)
  have z3 : (w2.alloc (.cells #[.string ⟨#[73, 82]⟩] 71)).heap.size = w.heap.size + 1 + 1 + 1 := by simp [z2]
  rw [z2] at hc3
  generalize w2.alloc (.cells #[.string ⟨#[73, 82]⟩] 71) = w3 at hu3 hc3 z3 ⊢
  have hk4 := code_lit w3 [⟨33, 0, 0, 0⟩] (by simp) (fun i hi => by
    obtain rfl : i = 0 := by simpa using hi
    simp only [Ins.bd, List.getD_cons_zero]; omega)
  have hu4 := (Upd.refl [] w3).alloc (.cells (xcells [⟨33, 0, 0, 0⟩]).toArray 27)
  have z4 : (w3.alloc (.cells (xcells [⟨33, 0, 0, 0⟩]).toArray 27)).heap.size = w.heap.size + 1 + 1 + 1 + 1 := by simp [z3]
  rw [z3] at hk4
  have e4 : w3.alloc (.cells #[.int .i64 33, .int .i64 0, .int .i64 0, .int .i64 0] 27) = w3.alloc (.cells (xcells [⟨33, 0, 0, 0⟩]).toArray 27) := rfl
  rw [e4]
  generalize w3.alloc (.cells (xcells [⟨33, 0, 0, 0⟩]).toArray 27) = w4 at hk4 hu4 z4 ⊢
  have hu24 := hu3.trans hu4
  have hm5 := meths_lit w4 (withM m).ms [.slice (some ⟨w.heap.size + 1 + 1 + 1, 0, none⟩) 1 1, .slice kp m.code.length kc] rfl (by show 2 ≤ 1000; omega) (fun i hi => by
    have : i = 0 ∨ i = 1 := by have h : (withM m).ms.length = 2 := rfl; omega
    rcases this with rfl | rfl
    · exact ⟨Nat.zero_le _, Nat.zero_le _, Nat.zero_le _⟩
    · exact hz) (fun i hi => by
    have : i = 0 ∨ i = 1 := by have h : (withM m).ms.length = 2 := rfl; omega
    rcases this with rfl | rfl
    · exact hk4
    · exact (hc.upd hu2).upd hu24)
  have hu5 := (Upd.refl [] w4).alloc (.cells (mcells (withM m).ms [.slice (some ⟨w.heap.size + 1 + 1 + 1, 0, none⟩) 1 1, .slice kp m.code.length kc]).toArray 39)
  rw [z4] at hm5
  have e5 : w4.alloc (.cells #[.string ⟨#[]⟩, .string ⟨#[]⟩, .string ⟨#[]⟩, .slice (some ⟨w.heap.size + 1 + 1 + 1, 0, none⟩) 1 1, .string m.params, .string m.locals, .string m.ret, .slice kp m.code.length kc] 39) = w4.alloc (.cells (mcells (withM m).ms [.slice (some ⟨w.heap.size + 1 + 1 + 1, 0, none⟩) 1 1, .slice kp m.code.length kc]).toArray 39) := rfl
  rw [e5]
  generalize w4.alloc (.cells (mcells (withM m).ms [.slice (some ⟨w.heap.size + 1 + 1 + 1, 0, none⟩) 1 1, .slice kp m.code.length kc]).toArray 39) = w5 at hm5 hu5 ⊢
  have hu25 := hu24.trans hu5
  have hr5 := hu25.heap hr2 (by simp)
  have d0 : w5.cell? ⟨w.heap.size + 1, 0, none⟩ = some (.slice (some ⟨w.heap.size + 1 + 1, 0, none⟩) 1 1) := by rw [cell_of hr5]; rfl
  have d1 : w5.cell? ⟨w.heap.size + 1, 1, none⟩ = some (.slice (some ⟨w.heap.size + 1 + 1 + 1 + 1, 0, none⟩) 2 2) := by rw [cell_of hr5]; rfl
  have hc5 := (hu4.trans hu5).heap hc3 (by simp)
  refine bodyPost_ret (v := .agg #[.slice (some ⟨w.heap.size + 1 + 1, 0, none⟩) 1 1, .slice (some ⟨w.heap.size + 1 + 1 + 1 + 1, 0, none⟩) 2 2]) (by simp [results, Tryd.results13, go_sem, d0, d1]) rfl ?_
  refine ⟨_, _, rfl, ⟨_, _, rfl, by simp, Nat.le_refl _, by show 1 ≤ maxLen; unfold maxLen; omega, fun i hi => ?_⟩, hm5, hu2.trans hu25⟩
  have hi0 : i = 0 := by have h : (withM m).cs.length = 1 := rfl; omega
  subst hi0
  exact ⟨w.heap.size + 1 + 1, 0, rfl, by show 2 ≤ maxLen; unfold maxLen; omega, by rw [cell_of hc5]; rfl⟩
end Go.Proofs.YtpmfbhoochogoaaDoor
