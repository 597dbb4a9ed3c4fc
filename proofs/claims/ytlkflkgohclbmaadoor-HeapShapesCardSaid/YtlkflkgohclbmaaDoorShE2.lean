/- HeapShapes: more of its end in plain Lean, and the mirror's object as the walk meets it. -/
import Derived.Test.YtlkflkgohclbmaaDoorShE
import Derived.Test.YtlkflkgohclbmaaDoorRShape2
namespace Go.Proofs.YtlkflkgohclbmaaDoor
open Go.RowKit

/-- A row lies in no block of another element type. -/
theorem own_heap_ne {w : World} {b1 : Nat} {e1 e2 : TypeId} {s1 : Nat} {v1 : Value} {n1 : Nat} {x1 : List Value} {b : Nat} {c : Array Value} (h1 : w.ownsRow b1 e1 s1 v1 n1 x1) (h2 : w.heap[b]? = some (.cells c e2)) (he : e1 ≠ e2) : v1.ownBlock ≠ some b := by
  intro hk
  rcases h1.2 with ⟨hv, _⟩ | ⟨g, cp, cur, hv, _, hg, _⟩
  · rw [hv] at hk; simp [Value.ownBlock] at hk
  · rw [hv] at hk
    simp only [Value.ownBlock, Option.some.injEq] at hk
    subst hk
    rw [hg] at h2
    injection h2 with h2
    injection h2 with _ h _
    exact he h

/-- The k-th object of the mirror, as a walk meets it. -/
theorem Mir.at {w : World} {B : Nat} {uv : Value} {ps : List OP} (h : Mir w B uv ps) (k : Nat) (hk : k < ps.length) :
    ∃ ub cap c xs b, uv = .slice (some ⟨ub, 0, none⟩) ps.length cap ∧ (ps.map OP.o).getD k (0, []) = (c, xs) ∧ w.cell? ⟨ub, k * 2, none⟩ = some (.int .i64 c) ∧ w.cell? ⟨ub, k * 2 + 1, none⟩ = some (.slice (some ⟨b, 0, none⟩) xs.length xs.length) ∧
      w.heap[b]? = some (.cells (icells xs) 2) ∧ B ≤ b ∧ ∀ w1, Mir w1 B uv ps → ∀ (j : Nat) (x : Int), ∃ ps', Mir (w1.setCell ⟨b, j, none⟩ (.int .i64 x)) B uv ps' ∧ ps'.map OP.o = (ps.map OP.o).set k (c, xs.set j x) ∧ ps'.length = ps.length := by
  obtain ⟨ub, cap, h1, h2, h3, h4⟩ := h.nth k hk
  have e : (ps.map OP.o).getD k (0, []) = (ps[k].c, ps[k].xs) := by
    rw [List.getD_eq_getElem?_getD, List.getElem?_map, List.getElem?_eq_getElem hk]; rfl
  rw [Nat.mul_comm] at h2 h3
  refine ⟨ub, cap, ps[k].c, ps[k].xs, ps[k].b, h1, e, h2, h3, h4, (h.vals _ (List.getElem_mem hk)).2.2.1, fun w1 h1 j x => ?_⟩
  refine ⟨_, h1.setv k hk j x, ?_, by simp⟩
  rw [map_o_set, e]

/-- A value put in both, at an object known whole. -/
theorem ShS.putAt {cs : List ByteArray} {S : Hp} {os : List (Int × List Int)} {rs : List Int} {i : Nat} (h : ShS cs S os rs i) (hok : S.Ok) {k j : Nat} {c rk v x : Int} {xs : List Int} (hk : k < rs.length) (hoc : os.getD k (0, []) = (c, xs)) (hrk : rs.getD k 0 = rk) (hj : j < xs.length)
    (hv : if S.refB rk j = true then RR rs v x else v = x) (hvb : -9223372036854775808 ≤ v ∧ v ≤ 9223372036854775807) :
    S.mayRaw rk j v = true ∧ ShS cs (S.put rk j v) (os.set k (c, xs.set j x)) rs (i + 1) := by
  subst hrk
  have := h.put hok hk (j := j) (v := v) (x := x) (by rw [hoc]; exact hj) hv hvb
  rw [hoc] at this
  exact this

theorem gr_outN_bd (G : Gr) (K : Nat) (hK : ∀ r, (G.num r).toNat ≤ K) (od : List Int) (n : Nat) : (G.outN n ([], od)).1.length ≤ n ∧ ∀ o ∈ (G.outN n ([], od)).1, o.2.length ≤ K := by
  induction n with
  | zero => exact ⟨by simp [Gr.outN], by simp [Gr.outN]⟩
  | succ n ih =>
    obtain ⟨h1, h2⟩ := ih
    show (G.outStep (G.outN n ([], od))).1.length ≤ n + 1 ∧ ∀ o ∈ (G.outStep (G.outN n ([], od))).1, o.2.length ≤ K
    unfold Gr.outStep
    split
    · refine ⟨by simp; omega, fun o ho => ?_⟩
      rcases List.mem_append.1 ho with ho | ho
      · exact h2 o ho
      · simp only [List.mem_singleton] at ho
        subst ho
        show (G.vals _ _ _).1.length ≤ K
        rw [gvals_len]
        exact hK _
    · exact ⟨by omega, h2⟩

theorem shs_bd {cs : List ByteArray} {S : Hp} {os : List (Int × List Int)} {rl : List Int} {n : Nat} (h : ShS cs S os rl n) (hn : n ≤ 60) (ts : List Int) :
    ((objGr cs os).shapeN (os.length + 1) ts).1.length ≤ 100000 ∧ ∀ o ∈ ((objGr cs os).shapeN (os.length + 1) ts).1, o.2.length ≤ 100000 := by
  have h1 := h.twin.len
  have h2 := h.few
  obtain ⟨a, b⟩ := gr_outN_bd (objGr cs os) 10 (fun r => by
    show (((os.getD r.toNat (0, [])).2.length : Nat) : Int).toNat ≤ 10
    rw [Int.toNat_natCast]
    by_cases hr : r.toNat < os.length
    · rw [List.getD_eq_getElem?_getD, List.getElem?_eq_getElem hr]
      exact (h.cl _ (List.getElem_mem hr)).1
    · rw [List.getD_eq_getElem?_getD, List.getElem?_eq_none (by omega)]
      simp) ((objGr cs os).roots ts).2 (os.length + 1)
  exact ⟨Nat.le_trans a (by omega), fun o ho => Nat.le_trans (b o ho) (by omega)⟩

end Go.Proofs.YtlkflkgohclbmaaDoor
