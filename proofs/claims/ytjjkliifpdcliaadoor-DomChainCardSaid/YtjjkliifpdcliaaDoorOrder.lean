/- flow.Order: contract. -/
import Derived.Test.YtjjkliifpdcliaaDoorWalkW
import Derived.Test.YtjjkliifpdcliaaDoorPutRow
import Derived.Test.YtjjkliifpdcliaaDoorShelf
namespace Go.Proofs.YtjjkliifpdcliaaDoor
open Go.RowKit

theorem post_len {c : List (List Nat)} (hc : Clean c) (h0 : c ≠ []) : (dfs c).post.length ≤ c.length := by
  obtain ⟨h1, h2⟩ := dfs_inv hc h0
  have := h1.ordle
  omega
theorem post_lenG (g : List (List Int)) : (dfs (cleanG g)).post.length ≤ g.length := by
  by_cases h : cleanG g = []
  · rw [h]; simp [dfs]
  · have := post_len (cleanG_clean g) h
    rwa [cleanG_len] at this

set_option maxHeartbeats 1000000 in
theorem order_any (v : Value) (g : List (List Int)) (w : World) (h : RowsAt w v g) (hn : g.length ≤ 1000) (hr : ∀ l ∈ g, l.length ≤ 100000) :
    Calls Tryd.prog 25 #[v] w fun e w' => ∃ u, e = .returned u ∧ OwnI w' w.heap.size 3 u (ints (dfs (cleanG g)).post.reverse) ∧ Upd [] w w' := by
  have HWK := Lib.hid (walk_any v g w h hn hr)
  have hpl := post_lenG g
  go_enter Tryd.func25, Tryd.ntmps25
  go_wp2_with fail
  refine HWK.out.mono ?_
  rintro e w1 ⟨sb, pv, bv, bs, rfl, hE, hu⟩
  generalize hds : (dfs (cleanG g)) = s at hE hpl
  have HDS := Lib.hid hds
  have hpost := hE.post
  have HREV : Hid (ints s.post.reverse = (ints s.post).reverse) := by show _ = _; unfold ints; rw [List.map_reverse]
  clear hds hE HWK
  have hlen : (ints s.post).length ≤ 1000 := by rw [ints_len]; omega
  generalize ints s.post = xs at hpost HREV hlen
  have HP := Lib.hid hpost
  rcases hpost.form with ⟨rfl, rfl⟩ | ⟨g', c', rfl, hc, hb, hl, _⟩
  · clear hpost
    go_wp2_with fail
    refine (Tryd.slices_Reverse_int_empty none 0 w1).mono ?_
    rintro e w' ⟨rfl, rfl⟩
    go_wp2_with fail
    go_ret
    refine ⟨_, rfl, ?_, hu⟩
    rw [HDS.out, HREV.out]
    exact OwnI.nil _ _ _
  · clear hpost hc hb hl
    go_wp2_with fail
    refine (Tryd.slices_Reverse_int g' 0 c' xs w1 HP.out.holds (by omega)).mono ?_
    rintro e w' ⟨rfl, nq, rfl⟩
    have hB := (HP.out.lt g' rfl).1
    have HO := Lib.hid (HP.out.putRow (n := nq) (ys := xs.reverse) (by simp))
    have hU := hu.trans' (upd_putRow w1 g' nq xs.reverse) (fun q hq hlt2 => by simp at hq; omega)
    generalize Sort.putRow (Value.int .i64) (Sort.ahead w1 nq) g' 0 xs.reverse.toArray = w2 at HO hU ⊢
    go_wp2_with fail
    go_ret
    refine ⟨_, rfl, ?_, hU⟩
    rw [HDS.out, HREV.out]
    have h1 := HO.out
    exact h1

end Go.Proofs.YtjjkliifpdcliaaDoor
