/- FramesPlay: the law's own frames in memory. FramesPlay: the law's fits and same. FramesPlay: the law's roots. SetRoots where it is refused. FramesPlay: the stack, and the law's own frames beside it. FramesPlay: what the stack is told, with the law's own frames beside it. -/
import Derived.Test.YtopojeanbpokaaaGreatDoorFpA
import Derived.Test.YtopojeanbpokaaaGreatDoorFrI
/-! FramesPlay: the law's own frames in memory. -/
/-! FramesPlay: the law's own frames in memory. -/
namespace Go.Proofs.YtopojeanbpokaaaGreatDoor
open Go.RowKit

/-- Law 13's own frames in memory. -/
structure WrsAt (w : World) (B : Nat) (lv : Value) (fs : List Fr) (vs : List FrV) : Prop where
  row : w.ownsRow B 56 4 lv fs.length (frcells fs vs)
  len : vs.length = fs.length
  loc : ∀ i, i < fs.length → OwnSl w B (vs.getD i default).lv (fs.getD i default).loc
  stk : ∀ i, i < fs.length → OwnSl w B (vs.getD i default).sv (fs.getD i default).stk
  two : ∀ i, i < fs.length → ∀ b, (vs.getD i default).lv.ownBlock = some b → (vs.getD i default).sv.ownBlock ≠ some b
  apart : ∀ i j, i < fs.length → j < fs.length → i ≠ j → ∀ b, (vs.getD i default).has b → ¬ (vs.getD j default).has b
theorem WrsAt.upd {w w' : World} {B : Nat} {lv : Value} {fs : List Fr} {vs : List FrV} {T : List Nat} (h : WrsAt w B lv fs vs) (hu : Upd T w w') (hT : ∀ t ∈ T, t < B ∨ w.heap.size ≤ t) : WrsAt w' B lv fs vs := by
  have off : ∀ {v : Value} {e : TypeId} {c n : Nat} {xs : List Value}, w.ownsRow B e c v n xs → ∀ k, v.ownBlock = some k → k ∉ T := fun ho k hk hm => by
    have h1 := World.ownsRow.lt ho k hk
    have h2 := hT k hm
    omega
  exact ⟨row_upd h.row hu (off h.row), h.len, fun i hi => row_upd (h.loc i hi) hu (off (h.loc i hi)), fun i hi => row_upd (h.stk i hi) hu (off (h.stk i hi)), h.two, h.apart⟩
theorem WrsAt.cell {w : World} {B : Nat} {lv : Value} {fs : List Fr} {vs : List FrV} (h : WrsAt w B lv fs vs) {i : Nat} (hi : i < fs.length) : ∃ g c, lv = .slice (some ⟨g, 0, none⟩) fs.length c ∧ w.cell? ⟨g, i * 4, none⟩ = some (.int .i64 (fs.getD i default).m) ∧ w.cell? ⟨g, i * 4 + 1, none⟩ = some (.int .i64 (fs.getD i default).pc) ∧ w.cell? ⟨g, i * 4 + 2, none⟩ = some (vs.getD i default).lv ∧ w.cell? ⟨g, i * 4 + 3, none⟩ = some (vs.getD i default).sv := by
  rcases h.row.2 with ⟨h1, h2⟩ | ⟨g, c, cur, h1, _⟩
  · omega
  · obtain ⟨g0, g1, g2, g3⟩ := frcells_get fs vs i h.len hi
    have cell : ∀ j u, (frcells fs vs)[j]? = some u → w.cell? ⟨g, j, none⟩ = some u := fun j u hj => by
      have := h.row.cells (g := g) (by rw [h1]; rfl) j u hj
      rwa [Addr.add_lit, Nat.zero_add] at this
    exact ⟨g, c, h1, cell _ _ g0, cell _ _ g1, cell _ _ g2, cell _ _ g3⟩
theorem WrsAt.shape {w : World} {B : Nat} {lv : Value} {fs : List Fr} {vs : List FrV} (h : WrsAt w B lv fs vs) : ∃ p c, lv = .slice p fs.length c := by
  rcases h.row.2 with ⟨h1, h2⟩ | ⟨g, c, cur, h1, _⟩
  · exact ⟨none, 0, by rw [h1, h2]⟩
  · exact ⟨_, c, h1⟩
theorem WrsAt.zero (w : World) (B : Nat) : WrsAt w B (.slice none 0 0) [] [] := ⟨⟨by simp [frcells], .inl ⟨rfl, rfl⟩⟩, rfl, by simp, by simp, by simp, by simp⟩
theorem cut_wr (w : World) (g len c q : Nat) (h : q ≤ c) : (Instr.slice 42 (.slice (some ⟨g, 0, none⟩) len c) none (some (.int .i64 (q : Int))) none).run Tryz.prog w = .ok (.slice (some ⟨g, 0, none⟩) q c) w := by
  have hsz : (sizeOf 56).run Tryz.prog w = .ok 4 w := by kernel_rfl
  have he : Tryz.prog.elem 42 = 56 := by kernel_rfl
  rw [run_slice_h w 42 _ _ _ (by rw [he]; exact Tryz.underlying42) .i64 (q : Int) (by omega) (by omega), he, hsz]
  simp [Result.andThen, sliced, Addr.add]
theorem WrsAt.pop {w : World} {B g c : Nat} {fs : List Fr} {vs : List FrV} {f : Fr} {v : FrV} (h : WrsAt w B (.slice (some ⟨g, 0, none⟩) (fs.length + 1) c) (fs ++ [f]) (vs ++ [v])) : WrsAt w B (.slice (some ⟨g, 0, none⟩) fs.length c) fs vs := by
  have hl : vs.length = fs.length := by have := h.len; simp at this; exact this
  have gi : ∀ {i : Nat}, i < fs.length → (fs ++ [f]).getD i default = fs.getD i default ∧ (vs ++ [v]).getD i default = vs.getD i default := fun hi => ⟨getD_snoc_lt _ _ _ _ hi, getD_snoc_lt _ _ _ _ (by omega)⟩
  refine ⟨?_, hl, fun i hi => ?_, fun i hi => ?_, fun i hi => ?_, fun i j hi hj => ?_⟩
  · obtain ⟨h0, h1⟩ := h.row
    rcases h1 with ⟨h1, h2⟩ | ⟨g1, c1, cur, h1, h2, h3, h4, h5, h6, h7⟩
    · cases h1
    · injection h1 with e1 _ e3
      injection e1 with e1
      injection e1 with e1
      subst e1 e3
      refine ⟨by rw [frcells_len _ _ hl], .inr ⟨g, c, cur, rfl, h2, h3, by simp at h4; omega, h5, h6, ?_⟩⟩
      have h8 := congrArg (List.take (fs.length * 4)) h7
      rw [List.take_take, frcells_take _ _ _ _ hl, Nat.min_eq_left (by simp; omega)] at h8
      exact h8
  · have := h.loc i (by simp; omega); rwa [(gi hi).1, (gi hi).2] at this
  · have := h.stk i (by simp; omega); rwa [(gi hi).1, (gi hi).2] at this
  · have := h.two i (by simp; omega); rwa [(gi hi).2] at this
  · have := h.apart i j (by simp; omega) (by simp; omega); rwa [(gi hi).2, (gi hj).2] at this
theorem wtop_at {w : World} {B : Nat} {lv : Value} {fs : List Fr} {vs : List FrV} {f : Fr} {v : FrV} (h : WrsAt w B lv (fs ++ [f]) (vs ++ [v])) (hl : vs.length = fs.length) : ∃ g c, lv = .slice (some ⟨g, 0, none⟩) (fs.length + 1) c ∧ topP lv (fs ++ [f]).length = .pointer (some ⟨g, fs.length * 4, none⟩) ∧ B ≤ g ∧
    w.cell? ⟨g, fs.length * 4, none⟩ = some (.int .i64 f.m) ∧ w.cell? ⟨g, fs.length * 4 + 1, none⟩ = some (.int .i64 f.pc) ∧ w.cell? ⟨g, fs.length * 4 + 2, none⟩ = some v.lv ∧ w.cell? ⟨g, fs.length * 4 + 3, none⟩ = some v.sv := by
  obtain ⟨g, c, rfl, g0, g1, g2, g3⟩ := h.cell (i := fs.length) (by simp)
  have e1 : (fs ++ [f]).getD fs.length default = f := getD_snoc_eq _ _ _
  have e2 : (vs ++ [v]).getD fs.length default = v := by rw [← hl]; exact getD_snoc_eq _ _ _
  rw [e1] at g0 g1
  rw [e2] at g2 g3
  have hlen : (fs ++ [f]).length = fs.length + 1 := by simp
  refine ⟨g, c, by rw [hlen], by unfold topP; simp, ?_, g0, g1, g2, g3⟩
  rcases h.row.2 with ⟨h1, h2⟩ | ⟨g1, c1, cur, h1, h2, _⟩
  · cases h1
  · injection h1 with e1
    injection e1 with e1
    injection e1 with e1
    omega
theorem wrow_set {w : World} {B g c : Nat} {fs : List Fr} {vs : List FrV} {f f' : Fr} {v v' : FrV} (hl : vs.length = fs.length) (h : w.ownsRow B 56 4 (.slice (some ⟨g, 0, none⟩) (fs.length + 1) c) (fs.length + 1) (frcells (fs ++ [f]) (vs ++ [v]))) (k : Nat) (hk : k < 4) (u : Value) (hc : (fr4 f v).set k u = fr4 f' v') :
    (w.setCell ⟨g, fs.length * 4 + k, none⟩ u).ownsRow B 56 4 (.slice (some ⟨g, 0, none⟩) (fs.length + 1) c) (fs.length + 1) (frcells (fs ++ [f']) (vs ++ [v'])) := by
  obtain ⟨h0, h1⟩ := h
  refine ⟨by rw [frcells_len _ _ (by simp [hl])]; simp, ?_⟩
  rcases h1 with ⟨h1, _⟩ | ⟨g1, c1, cur, h1, h2, h3, h4, h5, h6, h7⟩
  · cases h1
  · injection h1 with e1 _ e3
    injection e1 with e1
    injection e1 with e1
    subst e1 e3
    refine .inr ⟨g, c, cur.setIfInBounds (fs.length * 4 + k) u, rfl, h2, heap_setCell h3 _ _, h4, h5, by simpa using h6, ?_⟩
    rw [Array.toList_setIfInBounds, List.take_set, h7, frcells_snoc _ _ _ _ hl, frcells_snoc _ _ _ _ hl, List.set_append_right _ _ (by rw [frcells_len _ _ hl]; omega), frcells_len _ _ hl, show fs.length * 4 + k - fs.length * 4 = k by omega]
    have h8 : [Value.int .i64 (f.m : Int), .int .i64 f.pc, v.lv, v.sv].set k u = [Value.int .i64 (f'.m : Int), .int .i64 f'.pc, v'.lv, v'.sv] := hc
    rw [h8]
theorem WrsAt.own_ne {w : World} {B g n c : Nat} {fs : List Fr} {vs : List FrV} (h : WrsAt w B (.slice (some ⟨g, 0, none⟩) n c) fs vs) {i : Nat} (hi : i < fs.length) : ¬ (vs.getD i default).has g := by
  rcases h.row.2 with ⟨h1, _⟩ | ⟨g1, c1, cur, h1, h2, h3, _⟩
  · cases h1
  · injection h1 with e1
    injection e1 with e1
    injection e1 with e1
    subst e1
    have ne : ∀ {v : Value} {xs : List Slt}, OwnSl w B v xs → v.ownBlock ≠ some g := fun ho hb => by
      rcases ho.2 with ⟨h4, _⟩ | ⟨g4, c4, cur4, h4, _, h5, _⟩
      · rw [h4] at hb; simp [Value.ownBlock] at hb
      · rw [h4] at hb
        simp only [Value.ownBlock, Option.some.injEq] at hb
        subst hb
        rw [h3] at h5
        injection h5 with h5
        injection h5 with _ h5 _
        exact absurd h5 (by decide)
    rintro (hb | hb)
    · exact ne (h.loc i hi) hb
    · exact ne (h.stk i hi) hb
theorem WrsAt.jump {w : World} {B g c : Nat} {fs : List Fr} {vs : List FrV} {f : Fr} {v : FrV} (h : WrsAt w B (.slice (some ⟨g, 0, none⟩) (fs.length + 1) c) (fs ++ [f]) (vs ++ [v])) (pc : Int) :
    WrsAt (w.setCell ⟨g, fs.length * 4 + 1, none⟩ (.int .i64 pc)) B (.slice (some ⟨g, 0, none⟩) (fs.length + 1) c) (fs ++ [{ f with pc := pc }]) (vs ++ [v]) := by
  have hl : vs.length = fs.length := by have := h.len; simpa using this
  have hlen : (fs ++ [f]).length = fs.length + 1 := by simp
  have hu : Upd [g] w (w.setCell ⟨g, fs.length * 4 + 1, none⟩ (.int .i64 pc)) := (Upd.refl [g] w).setCell (.inl (by simp)) _
  have hrow := h.row
  rw [hlen] at hrow
  have gi : ∀ i, i < fs.length + 1 → ((fs ++ [{ f with pc := pc }]).getD i default).loc = ((fs ++ [f]).getD i default).loc ∧ ((fs ++ [{ f with pc := pc }]).getD i default).stk = ((fs ++ [f]).getD i default).stk := fun i hi => by
    by_cases e : i < fs.length
    · rw [getD_snoc_lt _ _ _ _ e, getD_snoc_lt _ _ _ _ e]; exact ⟨rfl, rfl⟩
    · have e2 : i = fs.length := by omega
      subst e2
      rw [getD_snoc_eq, getD_snoc_eq]; exact ⟨rfl, rfl⟩
  have off : ∀ i, i < (fs ++ [f]).length → (∀ k, ((vs ++ [v]).getD i default).lv.ownBlock = some k → k ∉ [g]) ∧ (∀ k, ((vs ++ [v]).getD i default).sv.ownBlock = some k → k ∉ [g]) := fun i hi => by
    have h1 := h.own_ne hi
    refine ⟨fun k hk hm => ?_, fun k hk hm => ?_⟩
    · rw [List.mem_singleton] at hm
      subst hm
      exact h1 (.inl hk)
    · rw [List.mem_singleton] at hm
      subst hm
      exact h1 (.inr hk)
  refine ⟨?_, by simp [hl], fun i hi => ?_, fun i hi => ?_, fun i hi => h.two i (by simpa using hi), fun i j hi hj => h.apart i j (by simpa using hi) (by simpa using hj)⟩
  · have hlen2 : (fs ++ [({ f with pc := pc } : Fr)]).length = fs.length + 1 := by simp
    rw [hlen2]
    exact wrow_set hl hrow 1 (by omega) _ rfl
  · have hi2 : i < (fs ++ [f]).length := by simpa using hi
    rw [(gi i (by simpa using hi)).1]
    exact (h.loc i hi2).upd hu (off i hi2).1
  · have hi2 : i < (fs ++ [f]).length := by simpa using hi
    rw [(gi i (by simpa using hi)).2]
    exact (h.stk i hi2).upd hu (off i hi2).2
theorem WrsAt.lay {w w2 : World} {B g c : Nat} {fs : List Fr} {vs : List FrV} {f : Fr} {v : FrV} {o : Obj} {sv' : Value} (x : Slt) (h : WrsAt w B (.slice (some ⟨g, 0, none⟩) (fs.length + 1) c) (fs ++ [f]) (vs ++ [v]))
    (hown : w2.ownsRow B 44 2 sv' (f.stk.length + 1) (slcells f.stk ++ [.bool x.ref, .int .i64 x.n])) (hgr : (w.alloc o).grownBy w2 v.sv.ownBlock) (hob : sv'.ownBlock = v.sv.ownBlock ∨ sv'.ownBlock = some (w.alloc o).heap.size) :
    WrsAt (w2.setCell ⟨g, fs.length * 4 + 3, none⟩ sv') B (.slice (some ⟨g, 0, none⟩) (fs.length + 1) c) (fs ++ [{ f with stk := f.stk ++ [x] }]) (vs ++ [⟨v.lv, sv'⟩]) ∧ Upd (v.sv.ownBlock.toList ++ [g]) w (w2.setCell ⟨g, fs.length * 4 + 3, none⟩ sv') := by
  have hl : vs.length = fs.length := by have := h.len; simpa using this
  have hlen : (fs ++ [f]).length = fs.length + 1 := by simp
  have hlen2 : (fs ++ [({ f with stk := f.stk ++ [x] } : Fr)]).length = fs.length + 1 := by simp
  have hsz : (w.alloc o).heap.size = w.heap.size + 1 := by simp
  have hu2 : Upd v.sv.ownBlock.toList w w2 := ((Upd.refl _ w).alloc o).grown hgr (fun q hq => Or.inl (Option.mem_toList.2 hq))
  have hu3 : Upd [g] w2 (w2.setCell ⟨g, fs.length * 4 + 3, none⟩ sv') := (Upd.refl [g] w2).setCell (.inl (by simp)) _
  have hgw : g < w.heap.size := by
    rcases h.row.2 with ⟨h1, _⟩ | ⟨g1, c1, cur, h1, h2, h3, _⟩
    · cases h1
    · injection h1 with e1
      injection e1 with e1
      injection e1 with e1
      subst e1
      exact lt_of_heap h3
  have vlast : (vs ++ [v]).getD fs.length default = v := by rw [← hl]; exact getD_snoc_eq _ _ _
  have flast : (fs ++ [f]).getD fs.length default = f := getD_snoc_eq _ _ _
  have vlast2 : (vs ++ [(⟨v.lv, sv'⟩ : FrV)]).getD fs.length default = ⟨v.lv, sv'⟩ := by rw [← hl]; exact getD_snoc_eq _ _ _
  have flast2 : (fs ++ [({ f with stk := f.stk ++ [x] } : Fr)]).getD fs.length default = { f with stk := f.stk ++ [x] } := getD_snoc_eq _ _ _
  have vi : ∀ {i}, i < fs.length → (vs ++ [v]).getD i default = vs.getD i default ∧ (vs ++ [(⟨v.lv, sv'⟩ : FrV)]).getD i default = vs.getD i default := fun hi => ⟨getD_snoc_lt _ _ _ _ (by omega), getD_snoc_lt _ _ _ _ (by omega)⟩
  have fi : ∀ {i}, i < fs.length → (fs ++ [f]).getD i default = fs.getD i default ∧ (fs ++ [({ f with stk := f.stk ++ [x] } : Fr)]).getD i default = fs.getD i default := fun hi => ⟨getD_snoc_lt _ _ _ _ hi, getD_snoc_lt _ _ _ _ hi⟩
  have hng : ¬ v.has g := by
    have h1 := h.own_ne (i := fs.length) (by simp)
    rwa [vlast] at h1
  have hlo := h.loc fs.length (by simp)
  have hst := h.stk fs.length (by simp)
  rw [vlast, flast] at hlo hst
  have lt1 : ∀ b, v.lv.ownBlock = some b → b < w.heap.size := fun b hb => (World.ownsRow.lt hlo b hb).2
  have hsg : sv'.ownBlock ≠ some g := fun e => by
    rcases hob with h1 | h1
    · exact hng (.inr (h1.symm.trans e))
    · have h2 := h1.symm.trans e
      injection h2 with h2
      omega
  -- a row that is neither the laid one nor the frames'
  have keep : ∀ {u : Value} {xs : List Slt}, OwnSl w B u xs → (∀ b, u.ownBlock = some b → v.sv.ownBlock ≠ some b) → u.ownBlock ≠ some g → OwnSl (w2.setCell ⟨g, fs.length * 4 + 3, none⟩ sv') B u xs := fun ho h1 h2 => by
    refine (ho.upd hu2 (fun k hk hm => h1 k hk (Option.mem_toList.1 hm))).upd hu3 (fun k hk hm => ?_)
    rw [List.mem_singleton] at hm
    subst hm
    exact h2 hk
  have two := h.two fs.length (by simp)
  rw [vlast] at two
  have ap : ∀ {i}, i < fs.length → ∀ b, (vs.getD i default).has b → ¬ v.has b := fun {i} hi b hb => by
    have h1 := h.apart i fs.length (by simp; omega) (by simp) (by omega) b
    rw [(vi hi).1, vlast] at h1
    exact h1 hb
  have own_lt : ∀ {i}, i < fs.length → ∀ b, (vs.getD i default).has b → b < w.heap.size := fun {i} hi b hb => by
    have h1 := h.loc i (by simp; omega)
    have h2 := h.stk i (by simp; omega)
    rw [(vi hi).1] at h1 h2
    rcases hb with hb | hb
    · exact (World.ownsRow.lt h1 b hb).2
    · exact (World.ownsRow.lt h2 b hb).2
  -- the laid row's block: the old one, or a new one
  have nb : ∀ b, sv'.ownBlock = some b → v.sv.ownBlock = some b ∨ w.heap.size < b := fun b hb => by
    rcases hob with h1 | h1
    · exact .inl (h1.symm.trans hb)
    · have h2 := h1.symm.trans hb
      injection h2 with h2
      exact .inr (by omega)
  refine ⟨⟨?_, by simp [hl], fun i hi => ?_, fun i hi => ?_, fun i hi b hb => ?_, fun i j hi hj hij b hb => ?_⟩, ?_⟩
  · rw [hlen2]
    have hrow := h.row
    rw [hlen] at hrow
    refine wrow_set hl (row_upd hrow hu2 (fun k hk hm => ?_)) 3 (by omega) _ rfl
    simp only [Value.ownBlock, Option.some.injEq] at hk
    subst hk
    exact hng (.inr (Option.mem_toList.1 hm))
  · by_cases e : i < fs.length
    · rw [(vi e).2, (fi e).2]
      have h1 := h.loc i (by simp; omega)
      rw [(vi e).1, (fi e).1] at h1
      have h2 := h.own_ne (i := i) (by simp; omega)
      rw [(vi e).1] at h2
      exact keep h1 (fun b hb hb2 => ap e b (.inl hb) (.inr hb2)) (fun hb => h2 (.inl hb))
    · have e2 : i = fs.length := by simp at hi; omega
      subst e2
      rw [vlast2, flast2]
      exact keep hlo (fun b hb => two b hb) (fun hb => hng (.inl hb))
  · by_cases e : i < fs.length
    · rw [(vi e).2, (fi e).2]
      have h1 := h.stk i (by simp; omega)
      rw [(vi e).1, (fi e).1] at h1
      have h2 := h.own_ne (i := i) (by simp; omega)
      rw [(vi e).1] at h2
      exact keep h1 (fun b hb hb2 => ap e b (.inr hb) (.inr hb2)) (fun hb => h2 (.inr hb))
    · have e2 : i = fs.length := by simp at hi; omega
      subst e2
      rw [vlast2, flast2]
      have hfin : OwnSl w2 B sv' (f.stk ++ [x]) := by
        unfold OwnSl
        rw [List.length_append, slcells_app]
        exact hown
      exact hfin.upd hu3 (fun k hk hm => by
        rw [List.mem_singleton] at hm
        subst hm
        exact hsg hk)
  · by_cases e : i < fs.length
    · rw [(vi e).2] at hb ⊢
      have h1 := h.two i (by simp; omega)
      rw [(vi e).1] at h1
      exact h1 b hb
    · have e2 : i = fs.length := by simp at hi; omega
      subst e2
      rw [vlast2] at hb ⊢
      intro h1
      rcases nb b h1 with h2 | h2
      · exact two b hb h2
      · have := lt1 b hb; omega
  · have key : ∀ {i}, i < fs.length → ∀ b, (vs.getD i default).has b → ¬ (⟨v.lv, sv'⟩ : FrV).has b := fun {i} hi b hb hb2 => by
      rcases hb2 with h1 | h1
      · exact ap hi b hb (.inl h1)
      · rcases nb b h1 with h2 | h2
        · exact ap hi b hb (.inr h2)
        · have := own_lt hi b hb; omega
    by_cases e : i < fs.length
    · rw [(vi e).2] at hb
      by_cases e2 : j < fs.length
      · rw [(vi e2).2]
        have h1 := h.apart i j (by simp; omega) (by simp; omega) hij b
        rw [(vi e).1, (vi e2).1] at h1
        exact h1 hb
      · have e3 : j = fs.length := by simp at hj; omega
        subst e3
        rw [vlast2]
        exact key e b hb
    · have e3 : i = fs.length := by simp at hi; omega
      subst e3
      rw [vlast2] at hb
      have e2 : j < fs.length := by simp at hj; omega
      rw [(vi e2).2]
      exact fun hb2 => key e2 b hb2 hb
  · exact (hu2.mono (fun _ h _ => List.mem_append_left _ h)).trans (hu3.mono (fun _ h _ => List.mem_append_right _ h))
theorem wlay_cell {w w2 : World} {B g c : Nat} {fs : List Fr} {vs : List FrV} {f : Fr} {v : FrV} {o : Obj} (h : WrsAt w B (.slice (some ⟨g, 0, none⟩) (fs.length + 1) c) (fs ++ [f]) (vs ++ [v])) (hgr : (w.alloc o).grownBy w2 v.sv.ownBlock) :
    ∃ cur, w2.heap[g]? = some (.cells cur 56) ∧ w2.cell? ⟨g, fs.length * 4 + 3, none⟩ = some v.sv := by
  have hl : vs.length = fs.length := by have := h.len; simpa using this
  have hu2 : Upd v.sv.ownBlock.toList w w2 := ((Upd.refl _ w).alloc o).grown hgr (fun q hq => Or.inl (Option.mem_toList.2 hq))
  have hng : g ∉ v.sv.ownBlock.toList := fun hm => by
    have h1 := h.own_ne (i := fs.length) (by simp)
    rw [show (vs ++ [v]).getD fs.length default = v by rw [← hl]; exact getD_snoc_eq _ _ _] at h1
    exact h1 (.inr (Option.mem_toList.1 hm))
  obtain ⟨g', c', hlv, _, _, g0, g1, g2, g3⟩ := wtop_at h hl
  injection hlv with e1
  injection e1 with e1
  injection e1 with e1
  subst e1
  rcases h.row.2 with ⟨h1, _⟩ | ⟨g4, c4, cur, h1, h2, h3, _⟩
  · cases h1
  · injection h1 with e1
    injection e1 with e1
    injection e1 with e1
    subst e1
    exact ⟨cur, hu2.heap h3 hng, hu2.cell g3 hng⟩
theorem WrsAt.has_ne {w : World} {B : Nat} {lv : Value} {fs : List Fr} {vs : List FrV} (h : WrsAt w B lv fs vs) {i : Nat} (hi : i < fs.length) {b : Nat} (hb : (vs.getD i default).has b) : lv.ownBlock ≠ some b := by
  rcases h.row.2 with ⟨h1, _⟩ | ⟨g1, c1, cur, h1, h2, h3, _⟩
  · rw [h1]
    intro e
    cases e
  · intro e
    rw [h1] at e
    simp only [Value.ownBlock, Option.some.injEq] at e
    subst e
    subst h1
    exact h.own_ne hi hb
theorem WrsAt.push {w w2 : World} {B : Nat} {lv lv' : Value} {fs : List Fr} {vs : List FrV} {o : Obj} (f : Fr) (v : FrV) (h : WrsAt w B lv fs vs) (hv : OwnSl w B v.lv f.loc) (hs : v.sv = .slice none 0 0) (hs2 : f.stk = [])
    (hap : ∀ b, v.lv.ownBlock = some b → ∀ i, i < fs.length → ¬ (vs.getD i default).has b) (hne : ∀ b, v.lv.ownBlock = some b → lv.ownBlock ≠ some b)
    (hown : w2.ownsRow B 56 4 lv' (fs.length + 1) (frcells fs vs ++ fr4 f v)) (hgr : (w.alloc o).grownBy w2 lv.ownBlock) :
    WrsAt w2 B lv' (fs ++ [f]) (vs ++ [v]) ∧ Upd lv.ownBlock.toList w w2 := by
  have hl := h.len
  have hu2 : Upd lv.ownBlock.toList w w2 := ((Upd.refl _ w).alloc o).grown hgr (fun q hq => Or.inl (Option.mem_toList.2 hq))
  have vi : ∀ {i}, i < fs.length → (vs ++ [v]).getD i default = vs.getD i default := fun hi => getD_snoc_lt _ _ _ _ (by omega)
  have fi : ∀ {i}, i < fs.length → (fs ++ [f]).getD i default = fs.getD i default := fun hi => getD_snoc_lt _ _ _ _ hi
  have vl : (vs ++ [v]).getD fs.length default = v := by rw [← hl]; exact getD_snoc_eq _ _ _
  have fl : (fs ++ [f]).getD fs.length default = f := getD_snoc_eq _ _ _
  have hsb : ∀ b, ¬ v.sv.ownBlock = some b := fun b e => by rw [hs] at e; cases e
  refine ⟨⟨?_, by simp [hl], fun i hi => ?_, fun i hi => ?_, fun i hi b hb => ?_, fun i j hi hj hij b hb => ?_⟩, hu2⟩
  · rw [frcells_snoc _ _ _ _ hl, List.length_append]
    exact hown
  · by_cases e : i < fs.length
    · rw [vi e, fi e]
      exact (h.loc i e).upd hu2 (fun k hk hm => h.has_ne e (.inl hk) (Option.mem_toList.1 hm))
    · have e2 : i = fs.length := by simp at hi; omega
      subst e2
      rw [vl, fl]
      exact hv.upd hu2 (fun k hk hm => hne k hk (Option.mem_toList.1 hm))
  · by_cases e : i < fs.length
    · rw [vi e, fi e]
      exact (h.stk i e).upd hu2 (fun k hk hm => h.has_ne e (.inr hk) (Option.mem_toList.1 hm))
    · have e2 : i = fs.length := by simp at hi; omega
      subst e2
      rw [vl, fl, hs, hs2]
      exact OwnSl.nil _ _
  · by_cases e : i < fs.length
    · rw [vi e] at hb ⊢
      exact h.two i e b hb
    · have e2 : i = fs.length := by simp at hi; omega
      subst e2
      rw [vl]
      exact hsb b
  · by_cases e : i < fs.length
    · rw [vi e] at hb
      by_cases e2 : j < fs.length
      · rw [vi e2]
        exact h.apart i j e e2 hij b hb
      · have e3 : j = fs.length := by simp at hj; omega
        subst e3
        rw [vl]
        rintro (hb2 | hb2)
        · exact hap b hb2 i e hb
        · exact hsb b hb2
    · have e3 : i = fs.length := by simp at hi; omega
      subst e3
      rw [vl] at hb
      have e2 : j < fs.length := by simp at hj; omega
      rw [vi e2]
      rcases hb with hb | hb
      · exact hap b hb j e2
      · exact absurd hb (hsb b)
theorem WrsAt.setN {w : World} {B : Nat} {lv : Value} {fs : List Fr} {vs : List FrV} (h : WrsAt w B lv fs vs) {i r k b m c : Nat} (x : Int) (hi : i < fs.length) (hr : r < 2) (hk : k < (rowF (fs.getD i default) r).length) (hb : ((rowF (fs.getD i default) r).getD k default).ref = true) (hv : rowV (vs.getD i default) r = .slice (some ⟨b, 0, none⟩) m c) :
    WrsAt (w.setCell ⟨b, k * 2 + 1, none⟩ (.int .i64 x)) B lv (updF fs i r k x) vs := by
  have hal := updF_alike fs i r k x hi hk hb
  have hu : Upd [b] w (w.setCell ⟨b, k * 2 + 1, none⟩ (.int .i64 x)) := (Upd.refl [b] w).setCell (.inl (by simp)) _
  have hhas : (vs.getD i default).has b := by
    unfold rowV at hv
    split at hv
    · exact .inl (by rw [hv]; rfl)
    · exact .inr (by rw [hv]; rfl)
  have keep : ∀ {v : Value} {xs : List Slt}, OwnSl w B v xs → v.ownBlock ≠ some b → OwnSl (w.setCell ⟨b, k * 2 + 1, none⟩ (.int .i64 x)) B v xs := fun ho hne => ho.upd hu (fun q hq hm => hne (by rw [List.mem_singleton] at hm; rw [← hm]; exact hq))
  have turn : ∀ {v : Value} {xs : List Slt}, OwnSl w B v xs → v = .slice (some ⟨b, 0, none⟩) m c → k < xs.length → (xs.getD k default).ref = true → OwnSl (w.setCell ⟨b, k * 2 + 1, none⟩ (.int .i64 x)) B v (xs.set k ⟨true, x⟩) := fun {v xs} ho hv hk hr => by
    subst hv
    have hm : m = xs.length := by
      obtain ⟨_, _, e⟩ := ho.shape
      injection e
    subst hm
    unfold OwnSl
    rw [List.length_set, slcells_set xs k x hk hr]
    exact ownsRow_set ho _ _
  have fj : ∀ j, (updF fs i r k x).getD j default = if i = j then updR (fs.getD i default) r k x else fs.getD j default := fun j => by
    unfold updF
    split
    · rename_i e
      subst e
      exact getD_set_eq _ _ _ hi
    · rename_i e
      exact getD_set_ne _ _ _ _ e
  refine ⟨?_, by rw [← hal.len]; exact h.len, fun j hj => ?_, fun j hj => ?_, fun j hj => h.two j (by rw [hal.len]; exact hj), fun j q hj hq => h.apart j q (by rw [hal.len]; exact hj) (by rw [hal.len]; exact hq)⟩
  · rw [← hal.len, ← frcells_alike vs hal]
    exact row_upd h.row hu (fun q hq hm => by
      rw [List.mem_singleton] at hm
      subst hm
      exact h.has_ne hi hhas hq)
  · have hj : j < fs.length := by rw [hal.len]; exact hj
    rw [fj j]
    have h1 := h.loc j hj
    by_cases e : i = j
    · subst e
      rw [if_pos rfl]
      by_cases e2 : r = 0
      · subst e2
        exact turn h1 hv hk hb
      · have e3 : (updR (fs.getD i default) r k x).loc = (fs.getD i default).loc := by unfold updR; rw [if_neg e2]
        rw [e3]
        refine keep h1 (fun hq => ?_)
        have h4 : (vs.getD i default).sv = .slice (some ⟨b, 0, none⟩) m c := by unfold rowV at hv; rwa [if_neg e2] at hv
        exact h.two i hi b hq (by rw [h4]; rfl)
    · rw [if_neg e]
      exact keep h1 (fun hq => h.apart i j hi hj e b hhas (.inl hq))
  · have hj : j < fs.length := by rw [hal.len]; exact hj
    rw [fj j]
    have h1 := h.stk j hj
    by_cases e : i = j
    · subst e
      rw [if_pos rfl]
      by_cases e2 : r = 0
      · have e3 : (updR (fs.getD i default) r k x).stk = (fs.getD i default).stk := by unfold updR; rw [if_pos e2]
        rw [e3]
        refine keep h1 (fun hq => ?_)
        have h4 : (vs.getD i default).lv = .slice (some ⟨b, 0, none⟩) m c := by unfold rowV at hv; rwa [if_pos e2] at hv
        exact h.two i hi b (by rw [h4]; rfl) hq
      · have e4 : r = 1 := by omega
        subst e4
        exact turn h1 hv hk hb
    · rw [if_neg e]
      exact keep h1 (fun hq => h.apart i j hi hj e b hhas (.inr hq))
theorem WrsAt.turn3 {w : World} {B g c : Nat} {fs : List Fr} {vs : List FrV} {f : Fr} {v : FrV} (sv' : Value) (st' : List Slt) (h : WrsAt w B (.slice (some ⟨g, 0, none⟩) (fs.length + 1) c) (fs ++ [f]) (vs ++ [v])) (hob : sv'.ownBlock = v.sv.ownBlock) (hst : OwnSl w B sv' st') :
    WrsAt (w.setCell ⟨g, fs.length * 4 + 3, none⟩ sv') B (.slice (some ⟨g, 0, none⟩) (fs.length + 1) c) (fs ++ [{ f with stk := st' }]) (vs ++ [⟨v.lv, sv'⟩]) := by
  have hl : vs.length = fs.length := by have := h.len; simpa using this
  have hlen : (fs ++ [f]).length = fs.length + 1 := by simp
  have hu : Upd [g] w (w.setCell ⟨g, fs.length * 4 + 3, none⟩ sv') := (Upd.refl [g] w).setCell (.inl (by simp)) _
  have hrow := h.row
  rw [hlen] at hrow
  have vlast : (vs ++ [v]).getD fs.length default = v := by rw [← hl]; exact getD_snoc_eq _ _ _
  have vlast2 : (vs ++ [(⟨v.lv, sv'⟩ : FrV)]).getD fs.length default = ⟨v.lv, sv'⟩ := by rw [← hl]; exact getD_snoc_eq _ _ _
  have vi : ∀ {i}, i < fs.length → (vs ++ [(⟨v.lv, sv'⟩ : FrV)]).getD i default = (vs ++ [v]).getD i default := fun hi => by rw [getD_snoc_lt _ _ _ _ (by omega), getD_snoc_lt _ _ _ _ (by omega)]
  have fi : ∀ {i}, i < fs.length → (fs ++ [({ f with stk := st' } : Fr)]).getD i default = (fs ++ [f]).getD i default := fun hi => by rw [getD_snoc_lt _ _ _ _ hi, getD_snoc_lt _ _ _ _ hi]
  have flast : (fs ++ [f]).getD fs.length default = f := getD_snoc_eq _ _ _
  have flast2 : (fs ++ [({ f with stk := st' } : Fr)]).getD fs.length default = { f with stk := st' } := getD_snoc_eq _ _ _
  have own : ∀ i, i < fs.length + 1 → ((vs ++ [(⟨v.lv, sv'⟩ : FrV)]).getD i default).lv.ownBlock = ((vs ++ [v]).getD i default).lv.ownBlock ∧ ((vs ++ [(⟨v.lv, sv'⟩ : FrV)]).getD i default).sv.ownBlock = ((vs ++ [v]).getD i default).sv.ownBlock := fun i hi => by
    by_cases e : i < fs.length
    · rw [vi e]; exact ⟨rfl, rfl⟩
    · have e2 : i = fs.length := by omega
      subst e2
      rw [vlast, vlast2]
      exact ⟨rfl, hob⟩
  have hng : ∀ i, i < fs.length + 1 → ¬ ((vs ++ [v]).getD i default).has g := fun i hi => h.own_ne (by rw [hlen]; exact hi)
  have keep : ∀ {u : Value} {xs : List Slt}, OwnSl w B u xs → u.ownBlock ≠ some g → OwnSl (w.setCell ⟨g, fs.length * 4 + 3, none⟩ sv') B u xs := fun ho hne => ho.upd hu (fun k hk hm => hne (by rw [List.mem_singleton] at hm; rw [← hm]; exact hk))
  refine ⟨?_, by simp [hl], fun i hi => ?_, fun i hi => ?_, fun i hi b hb => ?_, fun i j hi hj hij b hb hb2 => ?_⟩
  · have hlen2 : (fs ++ [({ f with stk := st' } : Fr)]).length = fs.length + 1 := by simp
    rw [hlen2]
    exact wrow_set hl hrow 3 (by omega) _ rfl
  · have hi : i < fs.length + 1 := by simpa using hi
    have h1 := h.loc i (by rw [hlen]; exact hi)
    have h2 := hng i hi
    by_cases e : i < fs.length
    · rw [vi e, fi e]
      exact keep h1 (fun hb => h2 (.inl hb))
    · have e2 : i = fs.length := by omega
      subst e2
      rw [vlast] at h1 h2
      rw [flast] at h1
      rw [vlast2, flast2]
      exact keep h1 (fun hb => h2 (.inl hb))
  · have hi : i < fs.length + 1 := by simpa using hi
    have h1 := h.stk i (by rw [hlen]; exact hi)
    have h2 := hng i hi
    by_cases e : i < fs.length
    · rw [vi e, fi e]
      exact keep h1 (fun hb => h2 (.inr hb))
    · have e2 : i = fs.length := by omega
      subst e2
      rw [vlast] at h2
      rw [vlast2, flast2]
      exact keep hst (fun hb => h2 (.inr (hob.symm.trans hb)))
  · have hi : i < fs.length + 1 := by simpa using hi
    rw [(own i hi).1] at hb
    rw [(own i hi).2]
    exact h.two i (by rw [hlen]; exact hi) b hb
  · have hi : i < fs.length + 1 := by simpa using hi
    have hj : j < fs.length + 1 := by simpa using hj
    have k1 : ((vs ++ [v]).getD i default).has b := by
      rcases hb with hb | hb
      · exact .inl (by rw [← (own i hi).1]; exact hb)
      · exact .inr (by rw [← (own i hi).2]; exact hb)
    have k2 : ((vs ++ [v]).getD j default).has b := by
      rcases hb2 with hb | hb
      · exact .inl (by rw [← (own j hj).1]; exact hb)
      · exact .inr (by rw [← (own j hj).2]; exact hb)
    exact h.apart i j (by rw [hlen]; exact hi) (by rw [hlen]; exact hj) hij b k1 k2
theorem WrsAt.updN {w w' : World} {B r : Nat} {lv : Value} {fs : List Fr} {vs : List FrV} (h : WrsAt w B lv fs vs) (hu : Upd [r] w w') (h1 : lv.ownBlock ≠ some r) (h2 : ∀ i, i < fs.length → ¬ (vs.getD i default).has r) : WrsAt w' B lv fs vs := by
  have off : ∀ {v : Value}, v.ownBlock ≠ some r → ∀ k, v.ownBlock = some k → k ∉ [r] := fun hne k hk hm => hne (by rw [List.mem_singleton] at hm; rw [← hm]; exact hk)
  exact ⟨row_upd h.row hu (off h1), h.len, fun i hi => (h.loc i hi).upd hu (off (fun hb => h2 i hi (.inl hb))), fun i hi => (h.stk i hi).upd hu (off (fun hb => h2 i hi (.inr hb))), h.two, h.apart⟩
theorem WrsAt.has_lt {w : World} {B : Nat} {lv : Value} {fs : List Fr} {vs : List FrV} (h : WrsAt w B lv fs vs) {i b : Nat} (hi : i < fs.length) (hb : (vs.getD i default).has b) : b < w.heap.size := by
  rcases hb with hb | hb
  · exact (World.ownsRow.lt (h.loc i hi) b hb).2
  · exact (World.ownsRow.lt (h.stk i hi) b hb).2
theorem WrsAt.putL {w : World} {B g c q lc : Nat} {fs : List Fr} {vs : List FrV} {f : Fr} {v : FrV} (k : Nat) (x : Slt) (h : WrsAt w B (.slice (some ⟨g, 0, none⟩) (fs.length + 1) c) (fs ++ [f]) (vs ++ [v])) (hk : k < f.loc.length) (hv : v.lv = .slice (some ⟨q, 0, none⟩) f.loc.length lc) :
    WrsAt ((w.setCell ⟨q, k * 2, none⟩ (.bool x.ref)).setCell ⟨q, k * 2 + 1, none⟩ (.int .i64 x.n)) B (.slice (some ⟨g, 0, none⟩) (fs.length + 1) c) (fs ++ [{ f with loc := f.loc.set k x }]) (vs ++ [v]) := by
  have hl : vs.length = fs.length := by have := h.len; simpa using this
  have hlen : (fs ++ [f]).length = fs.length + 1 := by simp
  have hu : Upd [q] w ((w.setCell ⟨q, k * 2, none⟩ (.bool x.ref)).setCell ⟨q, k * 2 + 1, none⟩ (.int .i64 x.n)) := ((Upd.refl [q] w).setCell (.inl (by simp)) _).setCell (.inl (by simp)) _
  have vlast : (vs ++ [v]).getD fs.length default = v := by rw [← hl]; exact getD_snoc_eq _ _ _
  have fi : ∀ {i}, i < fs.length → (fs ++ [({ f with loc := f.loc.set k x } : Fr)]).getD i default = (fs ++ [f]).getD i default := fun hi => by rw [getD_snoc_lt _ _ _ _ hi, getD_snoc_lt _ _ _ _ hi]
  have flast : (fs ++ [f]).getD fs.length default = f := getD_snoc_eq _ _ _
  have flast2 : (fs ++ [({ f with loc := f.loc.set k x } : Fr)]).getD fs.length default = { f with loc := f.loc.set k x } := getD_snoc_eq _ _ _
  have hq : ((vs ++ [v]).getD fs.length default).has q := by rw [vlast]; exact .inl (by rw [hv]; rfl)
  have keep : ∀ {u : Value} {xs : List Slt}, OwnSl w B u xs → u.ownBlock ≠ some q → OwnSl ((w.setCell ⟨q, k * 2, none⟩ (.bool x.ref)).setCell ⟨q, k * 2 + 1, none⟩ (.int .i64 x.n)) B u xs := fun ho hne => ho.upd hu (fun z hz hm => hne (by rw [List.mem_singleton] at hm; rw [← hm]; exact hz))
  refine ⟨?_, by simp [hl], fun i hi => ?_, fun i hi => ?_, fun i hi => h.two i (by simpa using hi), fun i j hi hj => h.apart i j (by simpa using hi) (by simpa using hj)⟩
  · have hrow := h.row
    have e1 : frcells (fs ++ [({ f with loc := f.loc.set k x } : Fr)]) (vs ++ [v]) = frcells (fs ++ [f]) (vs ++ [v]) := by rw [frcells_snoc _ _ _ _ hl, frcells_snoc _ _ _ _ hl]
    have e2 : (fs ++ [({ f with loc := f.loc.set k x } : Fr)]).length = (fs ++ [f]).length := by simp
    rw [e1, e2]
    exact row_upd hrow hu (fun z hz hm => by
      rw [List.mem_singleton] at hm
      subst hm
      exact h.has_ne (i := fs.length) (by simp) hq hz)
  · have hi : i < fs.length + 1 := by simpa using hi
    have h1 := h.loc i (by rw [hlen]; exact hi)
    by_cases e : i < fs.length
    · rw [fi e]
      exact keep h1 (fun hb => h.apart fs.length i (by simp) (by rw [hlen]; exact hi) (by omega) q hq (.inl hb))
    · have e2 : i = fs.length := by omega
      subst e2
      rw [vlast] at h1 ⊢
      rw [flast, hv] at h1
      rw [flast2, hv]
      exact h1.put k x hk
  · have hi : i < fs.length + 1 := by simpa using hi
    have h1 := h.stk i (by rw [hlen]; exact hi)
    by_cases e : i < fs.length
    · rw [fi e]
      exact keep h1 (fun hb => h.apart fs.length i (by simp) (by rw [hlen]; exact hi) (by omega) q hq (.inr hb))
    · have e2 : i = fs.length := by omega
      subst e2
      have h2 := h.two fs.length (by simp) q
      rw [vlast] at h1 h2 ⊢
      rw [flast] at h1
      rw [flast2]
      exact keep h1 (h2 (by rw [hv]; rfl))
end Go.Proofs.YtopojeanbpokaaaGreatDoor

/-! FramesPlay: the law's fits and same. -/
/-! FramesPlay: the law's fits and same. -/
namespace Go.Proofs.YtopojeanbpokaaaGreatDoor
open Go.RowKit

set_option maxRecDepth 100000 in
set_option maxHeartbeats 1000000 in
theorem fits13_any (x : Slt) (c : Int) (w : World) :
    Calls Tryz.prog 10 #[.agg #[.bool x.ref, .int .i64 x.n], .int .u8 c] w fun e w' => e = .returned (.bool (fitsB x c)) ∧ Upd [] w w' := by
  obtain ⟨r, n⟩ := x
  have hu := (Upd.refl [] w).alloc (.cells #[.bool r, .int .i64 n] 44)
  have HU := Lib.hid hu
  unfold fitsB
  simp only
  clear hu
  go_enter Tryz.func10, Tryz.ntmps10
  by_cases hc : c = 82
  · subst hc
    cases r with
    | true =>
      by_cases hn : 0 ≤ n
      · have hd : decide (0 ≤ n) = true := decide_eq_true hn
        go_wp2_with fail
        go_ret
        exact ⟨by simp [hn], HU.out⟩
      · have hd : decide (0 ≤ n) = false := decide_eq_false hn
        go_wp2_with fail
        go_ret
        exact ⟨by simp, HU.out⟩
    | false =>
      go_wp2_with fail
      go_ret
      exact ⟨by simp, HU.out⟩
  · have hd : (c == 82) = false := by rw [beq_eq_false_iff_ne]; exact hc
    cases r with
    | true =>
      go_wp2_with fail
      go_ret
      exact ⟨by simp [hc], HU.out⟩
    | false =>
      go_wp2_with fail
      go_ret
      exact ⟨by simp [hc], HU.out⟩

/-- A row of slots that can be read, from anywhere. -/
def SlO (w : World) (v : Value) (xs : List Slt) : Prop :=
  ∃ p c, v = .slice p xs.length c ∧ ∀ i, i < xs.length → ∃ b o, p = some ⟨b, o, none⟩ ∧ w.cell? ⟨b, o + i * 2, none⟩ = some (.bool (xs.getD i default).ref) ∧ w.cell? ⟨b, o + (i * 2 + 1), none⟩ = some (.int .i64 (xs.getD i default).n)
theorem SlO.upd {w w' : World} {v : Value} {xs : List Slt} {T : List Nat} (h : SlO w v xs) (hu : Upd T w w') (hT : ∀ p n c, v = .slice (some p) n c → xs ≠ [] → p.block ∉ T) : SlO w' v xs := by
  obtain ⟨p, c, rfl, h1⟩ := h
  refine ⟨p, c, rfl, fun i hi => ?_⟩
  obtain ⟨b, o, rfl, h2, h3⟩ := h1 i hi
  have hb := hT _ _ _ rfl (fun e => by rw [e] at hi; simp at hi)
  exact ⟨b, o, rfl, hu.cell h2 hb, hu.cell h3 hb⟩
theorem OwnSl.so {w : World} {B : Nat} {v : Value} {xs : List Slt} (h : OwnSl w B v xs) : SlO w v xs := by
  obtain ⟨b, hv, _⟩ := h.read
  obtain ⟨p, c, hs⟩ := h.shape
  refine ⟨p, c, hs, fun i hi => ?_⟩
  rcases hv.1 with ⟨_, e⟩ | ⟨c', e⟩
  · rw [e] at hi; simp at hi
  · rw [e] at hs
    injection hs with hs
    refine ⟨b, 0, hs.symm, ?_, ?_⟩
    · rw [Nat.zero_add]; exact (hv.2 i hi).1
    · rw [Nat.zero_add]; exact (hv.2 i hi).2

set_option maxRecDepth 100000 in
set_option maxHeartbeats 4000000 in
theorem same13_any (va vb : Value) (xs : List Slt) (w : World) (ha : SlO w va xs) (hb : SlO w vb xs) (hn : xs.length ≤ 100000) :
    Calls Tryz.prog 18 #[va, vb] w fun e w' => e = .returned (.bool true) ∧ Upd [] w w' := by
  obtain ⟨pa, ca, rfl, hxa⟩ := ha
  obtain ⟨pb, cb, rfl, hxb⟩ := hb
  have HA := Lib.hid hxa
  have HB := Lib.hid hxb
  clear hxa hxb
  go_enter Tryz.func18, Tryz.ntmps18
  go_wp2_with fail
  go_loopw [5] (fun iv wr => ∃ i : Nat, i ≤ xs.length ∧ iv = .int .i64 i ∧ Hid (Upd [] w wr)) (fun iv _ => xs.length - (intOf iv).toNat)
  case atStart => exact ⟨0, by omega, rfl, Upd.refl _ _⟩
  case round =>
    obtain ⟨i, hi, rfl, HU⟩ := hrel
    obtain ⟨wo, rfl⟩ : ∃ wo : World, wo = wr := ⟨_, rfl⟩
    by_cases hlt : i < xs.length
    · obtain ⟨ba, oa, rfl, a0, a1⟩ := HA.out i hlt
      obtain ⟨bb, ob, rfl, b0, b1⟩ := HB.out i hlt
      generalize xs.getD i default = x at a0 a1 b0 b1
      obtain ⟨r, n⟩ := x
      simp only at a0 a1 b0 b1
      have a0 := HU.out.cell a0 (by simp)
      have a1 := HU.out.cell a1 (by simp)
      have b0 := HU.out.cell b0 (by simp)
      have b1 := HU.out.cell b1 (by simp)
      rw [← Nat.add_assoc] at a1 b1
      have e0 : (r != r) = false := by simp
      have e1 : (n != n) = false := by simp
      go_upto_region 6 with fail
      go_quiet (fail)
      have HU2 := Lib.hid (HU.out.trans ((Upd.refl [] wo).drewN nq))
      clear a0 a1 b0 b1 HU
      go_wp2_with fail
      go_roundw
      case rel => exact ⟨i + 1, by omega, by go_num, HU2.out⟩
      case measure => simp [intOf]; omega
    · go_wp2_with fail
      go_ret
      exact ⟨rfl, HU.out⟩
end Go.Proofs.YtopojeanbpokaaaGreatDoor

/-! FramesPlay: the law's roots. -/
/-! FramesPlay: the law's roots. -/
namespace Go.Proofs.YtopojeanbpokaaaGreatDoor
open Go.RowKit

theorem SlO.src {w : World} {v : Value} {xs : List Slt} (h : SlO w v xs) : SrcV w v xs.length (slcells xs) := by
  obtain ⟨p, c, rfl, h1⟩ := h
  match p with
  | none =>
    have e : xs = [] := by
      cases xs with
      | nil => rfl
      | cons x t =>
        obtain ⟨_, _, h, _⟩ := h1 0 (by simp)
        cases h
    subst e
    exact .inl ⟨c, rfl, rfl, rfl⟩
  | some ⟨b, o, s⟩ =>
    refine .inr ⟨_, c, rfl, fun j u hj => ?_⟩
    have hl := (List.getElem?_eq_some_iff.1 hj).1
    rw [slcells_len] at hl
    obtain ⟨b', o', e, h2, h3⟩ := h1 (j / 2) (by omega)
    injection e with e
    injection e with e1 e2 e3
    subst e1 e2 e3
    rw [Addr.add_lit]
    obtain ⟨g1, g2⟩ := slcells_get xs (j / 2) (by omega)
    rcases Nat.mod_two_eq_zero_or_one j with e | e
    · have e2 : j / 2 * 2 = j := by omega
      rw [e2] at h2 g1
      rw [g1] at hj
      injection hj with hj
      rw [h2, hj]
    · have e2 : j / 2 * 2 + 1 = j := by omega
      rw [e2] at h3 g2
      rw [g2] at hj
      injection hj with hj
      rw [h3, hj]
theorem make_slots (m : Nat) (mi : Int) (hmi : mi = m) (h : m ≤ 1000) : ∃ mk : Array Value, mk.size = m * 2 ∧ ∀ w : World, (Instr.makeSlice 45 (.int .i64 0) (.int .i64 mi)).run Tryz.prog w = .ok (.slice (some ⟨w.heap.size, 0, none⟩) 0 m) (w.alloc (.cells mk 44)) := by
  subst hmi
  obtain ⟨i0, hi, hz0, hz1, hz2⟩ := info_parts Tryz.infoSlot
  refine ⟨madeCells (Value.agg #[.bool false, .int .i64 0]).cells (m * 2), size_madeCells _ _, fun w => ?_⟩
  have hmk := run_make (P := Tryz.prog) w 45 44 i0 (.agg #[.bool false, .int .i64 0]) Tryz.underlying45 hi hz0 .i64 .i64 0 (m : Int) (by omega) (by omega) (by rw [hz2]; omega) (by omega)
  rw [hz1] at hmk
  simpa using hmk
theorem made_slots (w : World) (mk : Array Value) (m : Nat) (h : mk.size = m * 2) (hm : m ≤ 1000) : (w.alloc (.cells mk 44)).ownsRow w.heap.size 44 2 (.slice (some ⟨w.heap.size, 0, none⟩) 0 m) 0 [] :=
  World.ownsRow_made w mk m (Nat.le_refl _) (by unfold maxLen; omega) h
theorem rootsL_step (fs : List Fr) (i : Nat) (h : i < fs.length) : rootsL (fs.take (i + 1)) = rootsL (fs.take i) ++ rrS ((fs.getD i default).loc ++ (fs.getD i default).stk) := by
  rw [List.take_succ_eq_append_getElem h, rootsL_app, rrS_app, List.getD_eq_getElem?_getD, List.getElem?_eq_getElem h]
  simp [rootsL]
theorem rrS_step (xs : List Slt) (k : Nat) (h : k < xs.length) : rrS (xs.take (k + 1)) = rrS (xs.take k) ++ if (xs.getD k default).ref then [(xs.getD k default).n] else [] := by
  rw [List.take_succ_eq_append_getElem h, rrS_app, List.getD_eq_getElem?_getD, List.getElem?_eq_getElem h, Option.getD_some]
  congr 1
  cases hb : (xs[k]).ref <;> simp [rrS, hb]
theorem rrS_le (xs : List Slt) : (rrS xs).length ≤ xs.length := by
  unfold rrS
  rw [List.length_map]
  exact List.length_filter_le _ _
theorem rootsL_le (fs : List Fr) (i : Nat) (hi : i ≤ fs.length) (hsz : ∀ j, j < fs.length → (fs.getD j default).loc.length ≤ 1000 ∧ (fs.getD j default).stk.length ≤ 1000) : (rootsL (fs.take i)).length ≤ i * 2000 := by
  induction i with
  | zero => simp [rootsL]
  | succ i ih =>
    have h1 := ih (by omega)
    have h2 := hsz i (by omega)
    rw [rootsL_step fs i (by omega), List.length_append]
    have h3 := rrS_le ((fs.getD i default).loc ++ (fs.getD i default).stk)
    rw [List.length_append] at h3
    omega

set_option maxRecDepth 100000 in
set_option maxHeartbeats 4000000 in
theorem roots13_any (B : Nat) (lv : Value) (fs : List Fr) (vs : List FrV) (w : World) (h : WrsAt w B lv fs vs) (hn : fs.length ≤ 1000) (hsz : ∀ j, j < fs.length → (fs.getD j default).loc.length ≤ 1000 ∧ (fs.getD j default).stk.length ≤ 1000) :
    Calls Tryz.prog 19 #[lv] w fun e w' => ∃ u, e = .returned u ∧ OwnI w' w.heap.size 3 u (rootsL fs) ∧ Upd [] w w' := by
  obtain ⟨i0, hi, hz0, hz1, hz2⟩ := info_parts Tryz.infoSlot
  have HI := Lib.hid hi
  have HZ0 := Lib.hid hz0
  have HZ1 := Lib.hid hz1
  have HZ2 := Lib.hid hz2
  clear hi hz0 hz1 hz2
  obtain ⟨i1, hi, hz0, hz1, hz2⟩ := info_parts Tryz.infoInt
  have HJ := Lib.hid hi
  have HJ0 := Lib.hid hz0
  have HJ1 := Lib.hid hz1
  have HJ2 := Lib.hid hz2
  clear hi hz0 hz1 hz2
  obtain ⟨mk, hmks, hmk⟩ := make_slots 30 30 rfl (by omega)
  have HMKS := Lib.hid hmks
  have HSZ := Lib.hid hsz
  obtain ⟨pf, cf, rfl⟩ := h.shape
  have H := Lib.hid h
  clear h hsz hmks
  go_enter Tryz.func19, Tryz.ntmps19
  go_wp2_with fail
  go_loopw [3, 4] (fun uv iv wr => ∃ i : Nat, i ≤ fs.length ∧ iv = .int .i64 i ∧ Hid (OwnI wr w.heap.size 3 uv (rootsL (fs.take i))) ∧ Hid (Upd [] w wr)) (fun _ iv _ => fs.length - (intOf iv).toNat)
  case atStart => exact ⟨0, by omega, rfl, OwnI.nil _ _ _, Upd.refl _ _⟩
  case round =>
    obtain ⟨i, hi, rfl, HO, HU⟩ := hrel
    obtain ⟨wo, rfl⟩ : ∃ wo : World, wo = wr := ⟨_, rfl⟩
    obtain ⟨up, uc, rfl⟩ := HO.out.shape
    by_cases hlt : i < fs.length
    · have HW := Lib.hid (H.out.upd HU.out (by simp))
      obtain ⟨g, c, e, g0, g1, g2, g3⟩ := HW.out.cell hlt
      injection e with e1 e2 e3
      subst e1 e3
      have HT := Lib.hid (rootsL_step fs i hlt)
      have hlo := HW.out.loc i hlt
      have hst := HW.out.stk i hlt
      obtain ⟨hl1, hl2⟩ := HSZ.out i hlt
      obtain ⟨pl, cl, hvl⟩ := hlo.shape
      obtain ⟨ps, cs, hvs⟩ := hst.shape
      rw [hvl] at g2 hlo
      rw [hvs] at g3 hst
      have HTL := Lib.hid (rootsL_le fs i hi HSZ.out)
      generalize fs.getD i default = f at *
      obtain ⟨m, pc, loc, stk⟩ := f
      simp only at g2 g3 hlo hst hl1 hl2 HT
      have HSO2 := Lib.hid hst.so
      have hdm := (Upd.refl [] wo).drew.alloc (.cells mk 44)
      have HS1 := Lib.hid (SlO.src (hlo.so.upd hdm (by simp)))
      have HR0 : Hid ((wo.drew.alloc (.cells mk 44)).ownsRow wo.heap.size 44 2 (.slice (some ⟨wo.heap.size, 0, none⟩) 0 30) 0 []) := made_slots wo.drew mk 30 HMKS.out (by omega)
      have hk : wo.cell? ⟨g, i * 4 + 2, none⟩ = some (.slice pl loc.length cl) ∧ wo.cell? ⟨g, i * 4 + 3, none⟩ = some (.slice ps stk.length cs) := ⟨g2, g3⟩
      have hkd : wo.drew.cell? ⟨g, i * 4 + 2, none⟩ = some (.slice pl loc.length cl) ∧ wo.drew.cell? ⟨g, i * 4 + 3, none⟩ = some (.slice ps stk.length cs) := ⟨g2, g3⟩
      have hk0 : (wo.drew.alloc (.cells mk 44)).cell? ⟨g, i * 4 + 2, none⟩ = some (.slice pl loc.length cl) ∧ (wo.drew.alloc (.cells mk 44)).cell? ⟨g, i * 4 + 3, none⟩ = some (.slice ps stk.length cs) := ⟨hdm.cell g2 (by simp), hdm.cell g3 (by simp)⟩
      have hkn := hkd
      clear g0 g1 g2 g3 hlo hst hvl hvs hdm e2
      go_upto_region 5 with fail
      refine wp_region_noPanic ?_
      refine wp_region_held_drew (S := fun W => W.cell? ⟨g, i * 4 + 2, none⟩ = some (.slice pl loc.length cl) ∧ W.cell? ⟨g, i * 4 + 3, none⟩ = some (.slice ps stk.length cs)) (by kernel_rfl) ?_ (fun hHeld => ?_)
      · first | exact hk2 | exact hk1 | exact hk0 | exact hkd | exact hkn
      refine wpAnyH_take (i := 1) (oi := ?_) (v := ?_) ?_ (by kernel_rfl) (by kernel_rfl) (by kernel_rfl) (fun _ _ _ h => h) (Or.inl ⟨?_, ?_⟩) hHeld ?_
      rotate_left 2
      · simp only [List.getElem?_toArray, List.getElem?_cons_zero, List.getElem?_cons_succ]; rfl
      · rfl
      · intro _ hSw; (try dsimp only at hSw); go_simp <;> with_reducible rfl
      (try simp only [Act.put, List.setIfInBounds_toArray, List.set_cons_zero, List.set_cons_succ])
      refine wpAnyH_take (i := 2) (oi := ?_) (v := ?_) ?_ (by kernel_rfl) (by kernel_rfl) (by kernel_rfl) (fun _ _ _ h => h) (Or.inl ⟨?_, ?_⟩) hHeld ?_
      rotate_left 2
      · simp only [List.getElem?_toArray, List.getElem?_cons_zero, List.getElem?_cons_succ]; rfl
      · rfl
      · intro _ hSw; (try dsimp only at hSw); go_simp <;> with_reducible rfl
      (try simp only [Act.put, List.setIfInBounds_toArray, List.set_cons_zero, List.set_cons_succ])
      refine wpAnyH_take (i := 3) (oi := ?_) (v := ?_) ?_ (by kernel_rfl) (by kernel_rfl) (by kernel_rfl) (fun _ _ _ h => h) (Or.inl ⟨?_, ?_⟩) hHeld ?_
      rotate_left 2
      · simp only [List.getElem?_toArray, List.getElem?_cons_zero, List.getElem?_cons_succ]; rfl
      · rfl
      · intro _ hSw; (try dsimp only at hSw); go_simp <;> with_reducible rfl
      (try simp only [Act.put, List.setIfInBounds_toArray, List.set_cons_zero, List.set_cons_succ])
      refine wpAnyH_take (i := 4) (oi := ?_) (v := ?_) ?_ (by kernel_rfl) (by kernel_rfl) (by kernel_rfl) (fun _ _ _ h => h) (Or.inl ⟨?_, ?_⟩) hHeld ?_
      rotate_left 2
      · simp only [List.getElem?_toArray, List.getElem?_cons_zero, List.getElem?_cons_succ]; rfl
      · rfl
      · intro _ hSw; (try dsimp only at hSw); go_simp <;> with_reducible rfl
      (try simp only [Act.put, List.setIfInBounds_toArray, List.set_cons_zero, List.set_cons_succ])
      refine wpAnyH_take (i := 5) (oi := ?_) (v := ?_) ?_ (by kernel_rfl) (by kernel_rfl) (by kernel_rfl) (fun _ _ _ h => h) (Or.inl ⟨?_, ?_⟩) hHeld ?_
      rotate_left 2
      · simp only [List.getElem?_toArray, List.getElem?_cons_zero, List.getElem?_cons_succ]; rfl
      · rfl
      · intro _ hSw; (try dsimp only at hSw); go_simp <;> with_reducible rfl
      (try simp only [Act.put, List.setIfInBounds_toArray, List.set_cons_zero, List.set_cons_succ])
      refine wpAnyH_take (i := 7) (oi := ?_) (v := ?_) ?_ (by kernel_rfl) (by kernel_rfl) (by kernel_rfl) (fun _ _ _ h => h) (Or.inl ⟨?_, ?_⟩) hHeld ?_
      rotate_left 2
      · simp only [List.getElem?_toArray, List.getElem?_cons_zero, List.getElem?_cons_succ]; rfl
      · rfl
      · intro _ hSw; (try dsimp only at hSw); go_simp <;> with_reducible rfl
      (try simp only [Act.put, List.setIfInBounds_toArray, List.set_cons_zero, List.set_cons_succ])
      refine wpAnyH_take (i := 8) (oi := ?_) (v := ?_) ?_ (by kernel_rfl) (by kernel_rfl) (by kernel_rfl) (fun _ _ _ h => h) (Or.inl ⟨?_, ?_⟩) hHeld ?_
      rotate_left 2
      · simp only [List.getElem?_toArray, List.getElem?_cons_zero, List.getElem?_cons_succ]; rfl
      · rfl
      · intro _ hSw; (try dsimp only at hSw); go_simp <;> with_reducible rfl
      (try simp only [Act.put, List.setIfInBounds_toArray, List.set_cons_zero, List.set_cons_succ])
      refine wpAnyH_take (i := 9) (oi := ?_) (v := ?_) ?_ (by kernel_rfl) (by kernel_rfl) (by kernel_rfl) (fun _ _ _ h => h) (Or.inl ⟨?_, ?_⟩) hHeld ?_
      rotate_left 2
      · simp only [List.getElem?_toArray, List.getElem?_cons_zero, List.getElem?_cons_succ]; rfl
      · rfl
      · intro _ hSw; (try dsimp only at hSw); go_simp <;> with_reducible rfl
      (try simp only [Act.put, List.setIfInBounds_toArray, List.set_cons_zero, List.set_cons_succ])
      refine wpAnyH_take (i := 10) (oi := ?_) (v := ?_) ?_ (by kernel_rfl) (by kernel_rfl) (by kernel_rfl) (fun _ _ _ h => h) (Or.inl ⟨?_, ?_⟩) hHeld ?_
      rotate_left 2
      · simp only [List.getElem?_toArray, List.getElem?_cons_zero, List.getElem?_cons_succ]; rfl
      · rfl
      · intro _ hSw; (try dsimp only at hSw); go_simp <;> with_reducible rfl
      (try simp only [Act.put, List.setIfInBounds_toArray, List.set_cons_zero, List.set_cons_succ])
      refine wpAnyH_take (i := 11) (oi := ?_) (v := ?_) ?_ (by kernel_rfl) (by kernel_rfl) (by kernel_rfl) (fun _ _ _ h => h) (Or.inl ⟨?_, ?_⟩) hHeld ?_
      rotate_left 2
      · simp only [List.getElem?_toArray, List.getElem?_cons_zero, List.getElem?_cons_succ]; rfl
      · rfl
      · intro _ hSw; (try dsimp only at hSw); go_simp <;> with_reducible rfl
      (try simp only [Act.put, List.setIfInBounds_toArray, List.set_cons_zero, List.set_cons_succ])
      refine wpAnyH_ready (rs := [0]) (by kernel_rfl) (by simp) ?_
      refine AllReadyH.cons (o := ?_) ?_ (fun K hK => ?_) AllReadyH.nil
      rotate_left 1
      · simp only [List.getElem?_toArray, List.getElem?_cons_zero]; rfl
      clear hHeld
      go_simp
      refine hK.out _ _ ?_ (fun hHeld => ?_)
      · first | exact hk2 | exact hk1 | exact hk0 | exact hkd | exact hkn
      clear hK K
      (try simp only [Act.put, List.setIfInBounds_toArray, List.set_cons_zero, List.set_cons_succ])
      refine wpAnyH_ready (rs := [6]) (by kernel_rfl) (by simp) ?_
      refine AllReadyH.cons (o := ?_) ?_ (fun K hK => ?_) AllReadyH.nil
      rotate_left 1
      · simp only [List.getElem?_toArray, List.getElem?_cons_zero, List.getElem?_cons_succ]; rfl
      clear hHeld
      (refine step_append_src rfl (.tmp 13) (.tmp 18) 45 rfl wo.heap.size 44 i0 (.agg #[.bool false, .int .i64 0]) 2 16 Tryz.underlying45 HI.out HZ0.out HZ1.out HZ2.out rfl (by decide) (.slice (some ⟨wo.heap.size, 0, none⟩) 0 30) 0 [] rfl HR0.out (.slice pl loc.length cl) loc.length (slcells loc) rfl HS1.out (slcells_len _) (slcells_one _) (by unfold maxLen; omega) (by omega) (by simp) ?_; intro v1 w5 hown1 hgr1 hat1; have HU5 := Lib.hid (((Upd.refl [] wo).drew.alloc (.cells mk 44)).grown hgr1 (fun q hq => Or.inr (by injection hq with hq; exact Nat.le_of_eq hq))); have hk1 := (⟨HU5.out.cell hk.1 (by simp), HU5.out.cell hk.2 (by simp)⟩ : _ ∧ _); have HS5 := Lib.hid (SlO.src (HSO2.out.upd HU5.out (by simp))); have HW5 := Lib.hid hown1; have HA5 := Lib.hid hat1; clear hgr1 hown1 hat1)
      refine hK.out _ _ ?_ (fun hHeld => ?_)
      · first | exact hk2 | exact hk1 | exact hk0 | exact hkd | exact hkn
      clear hK K
      (try simp only [Act.put, List.setIfInBounds_toArray, List.set_cons_zero, List.set_cons_succ])
      refine wpAnyH_ready (rs := [12]) (by kernel_rfl) (by simp) ?_
      refine AllReadyH.cons (o := ?_) ?_ (fun K hK => ?_) AllReadyH.nil
      rotate_left 1
      · simp only [List.getElem?_toArray, List.getElem?_cons_zero, List.getElem?_cons_succ]; rfl
      clear hHeld
      (refine step_append_src rfl (.tmp 19) (.tmp 24) 45 rfl wo.heap.size 44 i0 (.agg #[.bool false, .int .i64 0]) 2 16 Tryz.underlying45 HI.out HZ0.out HZ1.out HZ2.out rfl (by decide) v1 (0 + loc.length) ([] ++ slcells loc) rfl HW5.out (.slice ps stk.length cs) stk.length (slcells stk) rfl HS5.out (slcells_len _) (slcells_one _) (by unfold maxLen; omega) (by omega) (by have := HU5.out.size; omega) ?_; intro v2 w6 hown2 hgr2 hat2; have HU6 := Lib.hid (((Upd.refl v1.ownBlock.toList w5)).grown hgr2 (fun q hq => Or.inl (Option.mem_toList.2 hq))); have HV6 : Hid (Upd [] wo w6) := (HU5.out.trans' HU6.out (fun q hq hl => by have := (World.ownsRow.lt HW5.out q (Option.mem_toList.1 hq)).1; omega)); have hk2 := (⟨HV6.out.cell hk.1 (by simp), HV6.out.cell hk.2 (by simp)⟩ : _ ∧ _); have HW6 := Lib.hid hown2; clear hgr2 hown2 hat2)
      refine hK.out _ _ ?_ (fun hHeld => ?_)
      · first | exact hk2 | exact hk1 | exact hk0 | exact hkd | exact hkn
      clear hK K
      (try simp only [Act.put, List.setIfInBounds_toArray, List.set_cons_zero, List.set_cons_succ])
      refine wpAnyH_take (i := 13) (oi := ?_) (v := ?_) ?_ (by kernel_rfl) (by kernel_rfl) (by kernel_rfl) (fun _ _ _ h => h) (Or.inl ⟨?_, ?_⟩) hHeld ?_
      rotate_left 2
      · simp only [List.getElem?_toArray, List.getElem?_cons_zero, List.getElem?_cons_succ]; rfl
      · rfl
      · intro _ hSw; (try dsimp only at hSw); go_simp <;> with_reducible rfl
      (try simp only [Act.put, List.setIfInBounds_toArray, List.set_cons_zero, List.set_cons_succ])
      refine wpAnyH_done (by kernel_rfl) ?_ _
      refine NoPanic.normal ?_
      have hown : OwnSl w6 wo.heap.size v2 (loc ++ stk) := by
        have h1 := HW6.out
        rw [Nat.zero_add, List.nil_append, ← slcells_app, ← List.length_append] at h1
        exact h1
      obtain ⟨p2, c2, rfl⟩ := hown.shape
      have HOW := Lib.hid hown
      have HO6 := Lib.hid (HO.out.upd HV6.out (by simp))
      have HU6' := Lib.hid (HU.out.trans HV6.out)
      have hal : (loc ++ stk).length ≤ 2000 := by rw [List.length_append]; omega
      have HZW : Hid (w.heap.size ≤ wo.heap.size) := HU.out.size
      clear hown hk hkd hk0 hkn hk1 hk2 HW6 HU6 HV6 HS5 HW5 HA5 HU5 HR0 HS1 HSO2 HO HU HW hl1 hl2
      generalize loc ++ stk = all at HOW hal HT ⊢
      go_wp2_with fail
      go_loopw [3, 6] (fun uv kv wr => ∃ k : Nat, k ≤ all.length ∧ kv = .int .i64 k ∧ Hid (OwnI wr w.heap.size 3 uv (rootsL (fs.take i) ++ rrS (all.take k))) ∧ Hid (OwnSl wr wo.heap.size (.slice p2 all.length c2) all) ∧ Hid (Upd [] w wr)) (fun _ kv _ => all.length - (intOf kv).toNat)
      case atStart => exact ⟨0, by omega, rfl, by refine Hid.mk ?_; rw [List.take_zero]; simpa [rrS] using HO6.out, HOW.out, HU6'.out⟩
      case round =>
        clear HO6 HOW HU6'
        obtain ⟨k, hk, rfl, HO, HA, HU⟩ := hrel
        obtain ⟨wq, rfl⟩ : ∃ wq : World, wq = wr := ⟨_, rfl⟩
        obtain ⟨up, uc, rfl⟩ := HO.out.shape
        by_cases hkl : k < all.length
        · obtain ⟨qb, hread, _⟩ := HA.out.read
          have hp2 : p2 = some ⟨qb, 0, none⟩ := by
            rcases hread.1 with ⟨_, e⟩ | ⟨c9, e⟩
            · rw [e] at hkl; simp at hkl
            · injection e
          subst hp2
          obtain ⟨x0, x1⟩ := hread.2 k hkl
          have HS := Lib.hid (rrS_step all k hkl)
          clear hread
          generalize all.getD k default = x at x0 x1 HS
          obtain ⟨r, xn⟩ := x
          simp only at x0 x1 HS
          cases r with
          | false =>
            have HO2 : Hid (OwnI wq w.heap.size 3 (.slice up (rootsL (fs.take i) ++ rrS (all.take k)).length uc) (rootsL (fs.take i) ++ rrS (all.take (k + 1)))) := by
              have h1 := HS.out
              simp only [Bool.false_eq_true, if_false, List.append_nil] at h1
              rw [h1]
              exact HO.out
            clear HO HS
            go_wp2_with fail
            go_roundw
            case rel => exact ⟨k + 1, by omega, by go_num, HO2.out, HA.out, HU.out⟩
            case measure => simp [intOf]; omega
          | true =>
            have hlen : (rootsL (fs.take i) ++ rrS (all.take k)).length ≤ i * 2000 + 2000 := by
              have h1 := HTL.out
              have h2 := rrS_le (all.take k)
              rw [List.length_take] at h2
              rw [List.length_append]
              omega
            have HSS : Hid (rrS (all.take (k + 1)) = rrS (all.take k) ++ [xn]) := by
              refine Hid.mk ?_
              have h1 := HS.out
              simpa using h1
            obtain ⟨ys, hys⟩ : ∃ ys, rootsL (fs.take i) ++ rrS (all.take k) = ys := ⟨_, rfl⟩
            rw [hys] at HO hlen
            have HYS := Lib.hid hys
            clear hys HS
            go_wp2_with (at_builtin; refine stop_here ?_)
            refine Hid.mk ?_
            rw [HYS.out]
            refine (wpList_append_src rfl (.tmp 37) (.tmp 43) 63 rfl w.heap.size 3 i1 (.int .i64 0) 1 8 Tryz.underlying63 HJ.out HJ0.out HJ1.out HJ2.out rfl (by decide) _ _ _ rfl (World.ownsRow.alloc HO.out _) (.slice (some ⟨wq.heap.size, 0, none⟩) 1 1) 1 [.int .i64 xn] rfl (.inr ⟨_, _, rfl, int_new _ _⟩) rfl (by simp [Value.oneCell']) ?c1 ?c2 ?c3 ?c4)
            case c1 => unfold maxLen; omega
            case c2 => omega
            case c3 => have := HU.out.size; simp; omega
            case c4 =>
              intro v1 w7 hown hgr _
              have hu7 := ((Upd.refl (Value.slice up ys.length uc).ownBlock.toList wq).alloc (.cells #[.int .i64 xn] 3)).grown hgr (fun z hz => Or.inl (Option.mem_toList.2 hz))
              have HU7 : Hid (Upd [] w w7) := HU.out.trans' hu7 (fun q hq hl => by have := (World.ownsRow.lt HO.out q (Option.mem_toList.1 hq)).1; omega)
              have hto := HO.out
              have HA7 : Hid (OwnSl w7 wo.heap.size (.slice (some ⟨qb, 0, none⟩) all.length c2) all) := HA.out.upd hu7 (fun q hq hm => by
                injection hq with hq
                subst hq
                obtain ⟨cur, hcur⟩ := HA.out.typed (b := qb) rfl
                exact own_heap_ne HO.out hcur (by decide) (Option.mem_toList.1 hm))
              have HO7 : Hid (OwnI w7 w.heap.size 3 v1 (ys ++ [xn])) := OwnI.snoc hown
              obtain ⟨p7, c7, rfl⟩ := HO7.out.shape
              clear hown hgr hu7 hto
              go_wp2_with fail
              go_roundw
              case rel => exact ⟨k + 1, by omega, by go_num, by refine Hid.mk ?_; have h9 := HO7.out; rw [List.length_append] at h9; rw [HSS.out, ← List.append_assoc, HYS.out]; exact h9, HA7.out, HU7.out⟩
              case measure => simp [intOf]; omega
        · have hka : k = all.length := by omega
          have HO2 : Hid (OwnI wq w.heap.size 3 (.slice up (rootsL (fs.take i) ++ rrS (all.take k)).length uc) (rootsL (fs.take (i + 1)))) := by
            rw [HT.out]
            have h1 := HO.out
            rwa [hka, List.take_length] at h1 ⊢
          clear HO
          go_wp2_with fail
          go_roundw
          case rel => exact ⟨i + 1, by omega, by go_num, HO2.out, HU.out⟩
          case measure => simp [intOf]; omega
    · have hif : i = fs.length := by omega
      have HO2 : Hid (OwnI wo w.heap.size 3 (.slice up (rootsL (fs.take i)).length uc) (rootsL fs)) := by
        have h1 := HO.out
        rwa [hif, List.take_length] at h1 ⊢
      clear HO
      go_wp2_with fail
      go_ret
      exact ⟨_, rfl, HO2.out, HU.out⟩
end Go.Proofs.YtopojeanbpokaaaGreatDoor

/-! SetRoots where it is refused. -/
/-! SetRoots where it is refused. -/
namespace Go.Proofs.YtopojeanbpokaaaGreatDoor
open Go.RowKit

theorem first_neg : ∀ xs : List Int, (∃ x ∈ xs, x < 0) → ∃ k, k < xs.length ∧ xs.getD k 0 < 0 ∧ ∀ j, j < k → 0 ≤ xs.getD j 0
  | [], h => by simp at h
  | y :: xs, h => by
    by_cases hy : y < 0
    · exact ⟨0, by simp, by simpa using hy, fun j hj => by omega⟩
    · obtain ⟨k, h1, h2, h3⟩ := first_neg xs (by
        obtain ⟨x, hx, h4⟩ := h
        rcases List.mem_cons.1 hx with rfl | hx
        · exact absurd h4 hy
        · exact ⟨x, hx, h4⟩)
      refine ⟨k + 1, by simpa using h1, by simpa using h2, fun j hj => ?_⟩
      match j with
      | 0 => simpa using (by omega : 0 ≤ y)
      | j + 1 => simpa using h3 j (by omega)
set_option maxRecDepth 100000 in
set_option maxHeartbeats 1000000 in
theorem contains_yes (v : Value) (b : Nat) (xs : List Int) (w : World) (h : IntsV w v b xs) (hx : ∃ x ∈ xs, x < 0) (hn : xs.length ≤ 100000000) :
    Calls Tryz.prog 44 #[v, .func (.func 45) #[] #[]] w fun e w' => e = .returned (.bool true) ∧ w' = w := by
  obtain ⟨k0, hk0, hneg, hpos⟩ := first_neg xs hx
  have hi : Calls Tryz.prog 60 #[v, .func (.func 45) #[] #[]] w fun e w' => e = .returned (.int .i64 k0) ∧ w' = w := by
    obtain ⟨p, c, rfl⟩ := h.form
    have H := Lib.hid h
    have HX := Lib.hid hpos
    have HN := Lib.hid hneg
    clear h hx hpos hneg
    go_enter Tryz.func60, Tryz.ntmps60
    go_wp2_with fail
    go_loopw [5, 8] (fun _ kv wr => ∃ k : Nat, k ≤ k0 ∧ kv = .int .i64 k ∧ wr = w) (fun _ kv _ => xs.length - (intOf kv).toNat)
    case atStart => exact ⟨0, by omega, rfl, rfl⟩
    case round =>
      obtain ⟨k, hk, rfl, rfl⟩ := hrel
      have hlt : k < xs.length := by omega
      obtain ⟨h1, h2⟩ := sints_nth _ _ _ _ _ H.out k hlt
      subst h1
      by_cases hkk : k = k0
      · subst hkk
        have hge := HN.out
        generalize xs.getD k 0 = x at h2 hge
        have hd : decide (x < 0) = true := decide_eq_true hge
        go_wp2_with fail
        refine (setr2_any x _).mono ?_
        rintro e w' ⟨rfl, rfl⟩
        go_wp2_with fail
        go_ret
        exact ⟨rfl, rfl⟩
      · have hge := HX.out k (by omega)
        generalize xs.getD k 0 = x at h2 hge
        have hd : decide (x < 0) = false := decide_eq_false (by omega)
        go_wp2_with fail
        refine (setr2_any x _).mono ?_
        rintro e w' ⟨rfl, rfl⟩
        go_wp2_with fail
        go_roundw
        case rel => exact ⟨k + 1, by omega, by go_num, trivial⟩
        case measure => simp [intOf]; omega
  clear h hx hneg hpos
  have hd0 : decide ((0 : Int) ≤ (k0 : Int)) = true := decide_eq_true (by omega)
  go_enter Tryz.func44, Tryz.ntmps44
  go_wp2_with fail
  refine hi.mono ?_
  rintro e w' ⟨rfl, rfl⟩
  go_wp2_with fail
  go_ret
  exact ⟨by simp, rfl⟩
set_option maxRecDepth 100000 in
set_option maxHeartbeats 4000000 in
theorem ssetroots_no (W0 w : World) (sb ib : Nat) (p : Prg) (ss : List Lk) (n0 n : Int) (cv mv : Value) (limit words : Int) (lv : Value) (fs : List Fr) (vs : List FrV) (nv : Value) (nb : Nat) (ns : List Int) (h : StkAt W0 w sb ib p ss n0 n cv mv limit words lv fs vs) (hn : fs.length ≤ 100000) (hsz : ∀ i, i < fs.length → ∀ r, r < 2 → (rowF (fs.getD i default) r).length ≤ 1000)
    (hv : IntsV w nv nb ns) (hl2 : ns.length ≤ 10000000) (hr2 : (rootsL fs).length ≤ 10000000) (hx : ns.length ≠ (rootsL fs).length ∨ ∃ x ∈ ns, x < 0) :
    Calls Tryz.prog 20 #[.pointer (some ⟨sb, 0, none⟩), nv] w fun e w' => e = .returned (.bool false) ∧ Upd [] w w' := by
  obtain ⟨np, nc, rfl⟩ := hv.form
  have H := Lib.hid h
  have hsb : sb < w.heap.size := lt_of_heap h.box
  have hcnt : cntR fs fs.length = (rootsL fs).length := by
    rw [rootsL_len]
    unfold cntR
    rw [List.take_length]
  -- the boxes
  have hu1 := ((Upd.refl [] w).alloc (.cells #[.slice np ns.length nc] 63)).alloc (.cells #[.int .i64 0] 3)
  have hb1 := ((Upd.refl [] (w.alloc (.cells #[.slice np ns.length nc] 63))).alloc (.cells #[.int .i64 0] 3)).heap (heap_alloc_new w (.cells #[.slice np ns.length nc] 63)) (by simp)
  have hb2 := heap_alloc_new (w.alloc (.cells #[.slice np ns.length nc] 63)) (.cells #[.int .i64 0] 3)
  rw [show (w.alloc (.cells #[.slice np ns.length nc] 63)).heap.size = w.heap.size + 1 by simp] at hb2
  have HE1 : Hid (Calls Tryz.prog 42 #[.pointer (some ⟨sb, 0, none⟩), .func (.func 43) #[] #[.pointer (some ⟨w.heap.size + 1, 0, none⟩)]] ((w.alloc (.cells #[.slice np ns.length nc] 63)).alloc (.cells #[.int .i64 0] 3)) fun e w' => e = .returned (.tuple #[]) ∧ w'.heap[w.heap.size + 1]? = some (.cells #[.int .i64 (cntR fs fs.length : Nat)] 3) ∧ w'.heap[w.heap.size]? = some (.cells #[.slice np ns.length nc] 63) ∧ Upd [] w w') := by
    refine eachN_any (w.heap.size + 1) sb lv fs vs (fun j W => W.heap[w.heap.size + 1]? = some (.cells #[.int .i64 (j : Nat)] 3) ∧ W.heap[w.heap.size]? = some (.cells #[.slice np ns.length nc] 63) ∧ Upd [] w W) _ hn h.frs.shape (fun i hi r hr => by have := hsz i hi r hr; omega) ?_ ?_ ?_ ⟨hb2, hb1, hu1⟩
    · rintro j W ⟨_, _, hu⟩
      exact (H.out.same hu).each
    · rintro j W W' ⟨h1, h2, h3⟩ hu
      exact ⟨hu.heap h1 (by simp), hu.heap h2 (by simp), h3.trans hu⟩
    · rintro i hi r hr k hk hbv b m c hrv W ⟨h1, h2, h3⟩
      obtain ⟨P, Q, hPQ, hPl⟩ := roots_at fs i r k hi hr hk hbv
      rw [← hPl] at h1 ⊢
      have hPn : P.length ≤ 10000000 := by
        have := congrArg List.length hPQ
        rw [List.length_append] at this
        omega
      refine (setr1_any (w.heap.size + 1) P.length _ W h1 (by omega)).mono ?_
      rintro e W' ⟨rfl, rfl⟩
      have hst : Upd [w.heap.size + 1] W (W.setCell ⟨w.heap.size + 1, 0, none⟩ (.int .i64 ((P.length + 1 : Nat) : Int))) := (Upd.refl [w.heap.size + 1] W).setCell (.inl (by simp)) _
      refine ⟨rfl, ⟨by rw [heap_setCell h1]; rfl, hst.heap h2 (by simp), h3.trans' hst (fun q hq hl => by rw [List.mem_singleton] at hq; omega)⟩, fun q o hq => hst.heap hq (fun hm => ?_)⟩
      rw [List.mem_singleton] at hm
      subst hm
      rw [h1] at hq
      injection hq with hq
      injection hq with _ hq _
      exact absurd hq (by decide)
  have HV := Lib.hid hv
  have HX := Lib.hid hx
  have HV := Lib.hid hv
  have HX := Lib.hid hx
  rw [hcnt] at HE1
  clear hu1 hb1 hb2 h hcnt hv hx
  generalize (rootsL fs).length = q at HE1 HX hr2
  go_enter Tryz.func20, Tryz.ntmps20
  go_wp2_with fail
  refine HE1.out.mono ?_
  rintro e w2 ⟨rfl, h1, h2, hu2⟩
  have z0 : w2.cell? ⟨w.heap.size + 1, 0, none⟩ = some (.int .i64 (q : Nat)) := by rw [cell_of h1]; rfl
  have z1 : w2.cell? ⟨w.heap.size, 0, none⟩ = some (.slice np ns.length nc) := by rw [cell_of h2]; rfl
  have HU2 := Lib.hid hu2
  by_cases hql : ns.length = q
  · subst hql
    have HCN := Lib.hid (contains_yes _ nb ns w2 (HV.out.upd hu2 (.inr (by simp))) (HX.out.resolve_left (fun h => h rfl)) (by omega))
    clear h1 h2 hu2 HE1
    go_wp2_with fail
    refine HCN.out.mono ?_
    rintro e w2 ⟨rfl, rfl⟩
    go_wp2_with fail
    go_ret
    exact ⟨rfl, HU2.out⟩
  · have d0 : decide ((q : Int) = (ns.length : Int)) = false := decide_eq_false (by omega)
    have d1 : ((q : Int) != (ns.length : Int)) = true := by rw [bne_iff_ne]; omega
    have d2 : (q == ns.length) = false := by rw [beq_eq_false_iff_ne]; omega
    clear h1 h2 hu2 HE1
    go_wp2_with fail
    go_ret
    exact ⟨rfl, HU2.out⟩
end Go.Proofs.YtopojeanbpokaaaGreatDoor

/-! FramesPlay: the stack, and the law's own frames beside it. -/
/-! FramesPlay: the stack, and the law's own frames beside it. -/
namespace Go.Proofs.YtopojeanbpokaaaGreatDoor
open Go.RowKit

theorem WrsAt.updT {w w' : World} {B : Nat} {lv : Value} {fs : List Fr} {vs : List FrV} {T : List Nat} (h : WrsAt w B lv fs vs) (hu : Upd T w w') (h1 : ∀ r ∈ T, lv.ownBlock ≠ some r) (h2 : ∀ r ∈ T, ∀ i, i < fs.length → ¬ (vs.getD i default).has r) : WrsAt w' B lv fs vs :=
  ⟨row_upd h.row hu (fun k hk hm => h1 k hm hk), h.len, fun i hi => row_upd (h.loc i hi) hu (fun k hk hm => h2 k hm i hi (.inl hk)), fun i hi => row_upd (h.stk i hi) hu (fun k hk hm => h2 k hm i hi (.inr hk)), h.two, h.apart⟩
theorem FrsAt.updT {w w' : World} {B : Nat} {lv : Value} {fs : List Fr} {vs : List FrV} {T : List Nat} (h : FrsAt w B lv fs vs) (hu : Upd T w w') (h1 : ∀ r ∈ T, lv.ownBlock ≠ some r) (h2 : ∀ r ∈ T, ∀ i, i < fs.length → ¬ (vs.getD i default).has r) : FrsAt w' B lv fs vs :=
  ⟨row_upd h.row hu (fun k hk hm => h1 k hm hk), h.len, fun i hi => row_upd (h.loc i hi) hu (fun k hk hm => h2 k hm i hi (.inl hk)), fun i hi => row_upd (h.stk i hi) hu (fun k hk hm => h2 k hm i hi (.inr hk)), h.two, h.apart⟩
theorem WrsAt.cap {w : World} {B : Nat} {a : Option Addr} {n c : Nat} {fs : List Fr} {vs : List FrV} (h : WrsAt w B (.slice a n c) fs vs) : fs.length ≤ c := by
  rcases h.row.2 with ⟨h1, h2⟩ | ⟨g, c1, cur, h1, h2, h3, h4, _⟩
  · omega
  · injection h1 with _ _ e3
    omega
theorem FrsAt.base {w : World} {B : Nat} {lv : Value} {fs : List Fr} {vs : List FrV} (h : FrsAt w B lv fs vs) {i b : Nat} (hi : i < fs.length) (hb : (vs.getD i default).has b) : B ≤ b ∧ b < w.heap.size := by
  rcases hb with hb | hb
  · exact World.ownsRow.lt (h.loc i hi) b hb
  · exact World.ownsRow.lt (h.stk i hi) b hb
theorem WrsAt.base {w : World} {B : Nat} {lv : Value} {fs : List Fr} {vs : List FrV} (h : WrsAt w B lv fs vs) {i b : Nat} (hi : i < fs.length) (hb : (vs.getD i default).has b) : B ≤ b ∧ b < w.heap.size := by
  rcases hb with hb | hb
  · exact World.ownsRow.lt (h.loc i hi) b hb
  · exact World.ownsRow.lt (h.stk i hi) b hb
theorem FrsAt.hasT {w : World} {B : Nat} {lv : Value} {fs : List Fr} {vs : List FrV} (h : FrsAt w B lv fs vs) {i b : Nat} (hi : i < fs.length) (hb : (vs.getD i default).has b) : ∃ cur, w.heap[b]? = some (.cells cur 44) := by
  rcases hb with hb | hb
  · exact OwnSl.typed (h.loc i hi) hb
  · exact OwnSl.typed (h.stk i hi) hb
theorem WrsAt.hasT {w : World} {B : Nat} {lv : Value} {fs : List Fr} {vs : List FrV} (h : WrsAt w B lv fs vs) {i b : Nat} (hi : i < fs.length) (hb : (vs.getD i default).has b) : ∃ cur, w.heap[b]? = some (.cells cur 44) := by
  rcases hb with hb | hb
  · exact OwnSl.typed (h.loc i hi) hb
  · exact OwnSl.typed (h.stk i hi) hb

/-- What the law is told lies in boxes that stay. -/
def KeepD (w w' : World) : Prop := ∀ (b : Nat) (cur : Array Value), w.heap[b]? = some (.cells cur 47) → w'.heap[b]? = some (.cells cur 47)
/-- A stack, and the law's own frames beside it. -/
structure TwoAt (wb W0 w : World) (sb ib : Nat) (p : Prg) (ss : List Lk) (n : Int) (cv mv : Value) (limit words : Int) (lv : Value) (fs : List Fr) (vs : List FrV) (wl : Value) (gs : List Fr) (ws : List FrV) : Prop where
  st : StkAt W0 w sb ib p ss 0 n cv mv limit words lv fs vs
  wr : WrsAt w (sb + 1) wl gs ws
  ap : ∀ i j, i < fs.length → j < gs.length → ∀ b, (vs.getD i default).has b → ¬ (ws.getD j default).has b
  up : Upd [] wb w
  base : wb.heap.size ≤ ib
section
variable {wb W0 w w' : World} {sb ib : Nat} {p : Prg} {ss : List Lk} {n n' : Int} {cv mv : Value} {limit words words' : Int} {lv lv' : Value} {fs fs' : List Fr} {vs vs' : List FrV} {wl wl' : Value} {gs gs' : List Fr} {ws ws' : List FrV}
theorem TwoAt.same (h : TwoAt wb W0 w sb ib p ss n cv mv limit words lv fs vs wl gs ws) (hu : Upd [] w w') : TwoAt wb W0 w' sb ib p ss n cv mv limit words lv fs vs wl gs ws :=
  ⟨h.st.same hu, h.wr.upd hu (by simp), h.ap, h.up.trans hu, h.base⟩
/-- The stack was told something. -/
theorem TwoAt.stack {T : List Nat} (h : TwoAt wb W0 w sb ib p ss n cv mv limit words lv fs vs wl gs ws) (hu : Upd T w w') (hst : StkAt W0 w' sb ib p ss 0 n' cv mv limit words' lv' fs' vs')
    (hT : ∀ t ∈ T, t = ib ∨ t = sb ∨ lv.ownBlock = some t ∨ (∃ i, i < fs.length ∧ (vs.getD i default).has t) ∨ w.heap.size ≤ t)
    (hv : ∀ i, i < fs'.length → ∀ b, (vs'.getD i default).has b → w.heap.size ≤ b ∨ ∃ k, k < fs.length ∧ (vs.getD k default).has b) :
    TwoAt wb W0 w' sb ib p ss n' cv mv limit words' lv' fs' vs' wl gs ws := by
  have hib := h.st.ib_lt
  have hlt : ∀ j b, j < gs.length → (ws.getD j default).has b → sb + 1 ≤ b ∧ b < w.heap.size := fun j b hj hb => h.wr.base hj hb
  have hw : ∀ b, wl.ownBlock = some b → sb + 1 ≤ b ∧ b < w.heap.size := fun b hb => World.ownsRow.lt h.wr.row b hb
  have h1 : ∀ r ∈ T, wl.ownBlock ≠ some r := fun r hr hb => by
    have h0 := hw r hb
    rcases hT r hr with e | e | e | ⟨i, hi, e⟩ | e
    · omega
    · omega
    · exact own_ne h.st.frs.row h.wr.row (by decide) r e hb
    · obtain ⟨cur, hc⟩ := h.st.frs.hasT hi e
      exact own_heap_ne h.wr.row hc (by decide) hb
    · omega
  have h2 : ∀ r ∈ T, ∀ j, j < gs.length → ¬ (ws.getD j default).has r := fun r hr j hj hb => by
    have h0 := hlt j r hj hb
    obtain ⟨cur, hc⟩ := h.wr.hasT hj hb
    rcases hT r hr with e | e | e | ⟨i, hi, e⟩ | e
    · omega
    · omega
    · exact own_heap_ne h.st.frs.row hc (by decide) e
    · exact h.ap i j hi hj r e hb
    · omega
  refine ⟨hst, h.wr.updT hu h1 h2, fun i j hi hj b hb hb2 => ?_, h.up.trans' hu (fun q hq hl => ?_), h.base⟩
  · rcases hv i hi b hb with e | ⟨k, hk, e⟩
    · have := hlt j b hj hb2
      omega
    · exact h.ap k j hk hj b e hb2
  · have hb := h.base
    have hs := h.up.size
    rcases hT q hq with e | e | e | ⟨i, hi, e⟩ | e
    · omega
    · omega
    · have := World.ownsRow.lt h.st.frs.row q e
      omega
    · have := h.st.frs.base hi e
      omega
    · omega
/-- What the law was told stays in its box. -/
theorem TwoAt.keep {T : List Nat} (h : TwoAt wb W0 w sb ib p ss n cv mv limit words lv fs vs wl gs ws) (hu : Upd T w w')
    (hT : ∀ t ∈ T, t = ib ∨ t = sb ∨ lv.ownBlock = some t ∨ (∃ i, i < fs.length ∧ (vs.getD i default).has t) ∨ w.heap.size ≤ t) : KeepD w w' := fun b cur hb => by
  refine hu.heap hb (fun hm => ?_)
  rcases hT b hm with e | e | e | ⟨i, hi, e⟩ | e
  · obtain ⟨_, _, _, h1, _⟩ := h.st.info.now
    subst e
    exact heap_ne hb h1 (by decide) rfl
  · subst e
    exact heap_ne hb h.st.box (by decide) rfl
  · exact own_heap_ne h.st.frs.row hb (by decide) e
  · obtain ⟨c2, h1⟩ := h.st.frs.hasT hi e
    exact heap_ne hb h1 (by decide) rfl
  · have := lt_of_heap hb
    omega
/-- The law's own frames were turned. -/
theorem TwoAt.law {T : List Nat} (h : TwoAt wb W0 w sb ib p ss n cv mv limit words lv fs vs wl gs ws) (hu : Upd T w w') (hwr : WrsAt w' (sb + 1) wl' gs' ws')
    (hT : ∀ t ∈ T, wl.ownBlock = some t ∨ (∃ j, j < gs.length ∧ (ws.getD j default).has t) ∨ w.heap.size ≤ t)
    (hv : ∀ j, j < gs'.length → ∀ b, (ws'.getD j default).has b → w.heap.size ≤ b ∨ ∃ k, k < gs.length ∧ (ws.getD k default).has b) :
    TwoAt wb W0 w' sb ib p ss n cv mv limit words lv fs vs wl' gs' ws' := by
  have hib := h.st.ib_lt
  have hsb : sb < w.heap.size := lt_of_heap h.st.box
  have hlow : ∀ t ∈ T, sb + 1 ≤ t := fun t ht => by
    rcases hT t ht with e | ⟨j, hj, e⟩ | e
    · exact (World.ownsRow.lt h.wr.row t e).1
    · exact (h.wr.base hj e).1
    · omega
  have h1 : ∀ r ∈ T, lv.ownBlock ≠ some r := fun r hr hb => by
    rcases hT r hr with e | ⟨j, hj, e⟩ | e
    · exact own_ne h.wr.row h.st.frs.row (by decide) r e hb
    · obtain ⟨cur, hc⟩ := h.wr.hasT hj e
      exact own_heap_ne h.st.frs.row hc (by decide) hb
    · have := World.ownsRow.lt h.st.frs.row r hb
      omega
  have h2 : ∀ r ∈ T, ∀ i, i < fs.length → ¬ (vs.getD i default).has r := fun r hr i hi hb => by
    rcases hT r hr with e | ⟨j, hj, e⟩ | e
    · obtain ⟨cur, hc⟩ := h.st.frs.hasT hi hb
      exact own_heap_ne h.wr.row hc (by decide) e
    · exact h.ap i j hi hj r hb e
    · have := h.st.frs.base hi hb
      omega
  refine ⟨⟨hu.heap h.st.box (fun hm => by have := hlow sb hm; omega), h.st.frs.updT hu h1 h2, h.st.info.keep hu (fun q hq => by have := hlow q hq; have := h.st.at_; omega), h.st.meths, h.st.at_⟩, hwr, fun i j hi hj b hb hb2 => ?_, h.up.trans' hu (fun q hq hl => ?_), h.base⟩
  · rcases hv j hj b hb2 with e | ⟨k, hk, e⟩
    · have := h.st.frs.base hi hb
      omega
    · exact h.ap i k hi hk b hb e
  · have := hlow q hq
    have hb := h.base
    omega
end
theorem vs_split2 {n : Nat} {vs : List FrV} (h : vs.length = n + 1) : ∃ vs' v, vs = vs' ++ [v] ∧ vs'.length = n := by
  rcases List.eq_nil_or_concat vs with rfl | ⟨a, b, rfl⟩
  · simp at h
  · exact ⟨a, b, by simp, by simpa using h⟩
theorem has_snoc {vs : List FrV} {v : FrV} {i b : Nat} (hi : i < vs.length + 1) (h : ((vs ++ [v]).getD i default).has b) : (∃ k, k < vs.length ∧ (vs.getD k default).has b) ∨ v.has b := by
  by_cases e : i < vs.length
  · rw [getD_snoc_lt _ _ _ _ e] at h
    exact .inl ⟨i, e, h⟩
  · have e2 : i = vs.length := by omega
    subst e2
    rw [getD_snoc_eq] at h
    exact .inr h
theorem snoc_has {vs : List FrV} {v : FrV} {k b : Nat} (hk : k < vs.length) (h : (vs.getD k default).has b) : ((vs ++ [v]).getD k default).has b := by
  rw [getD_snoc_lt _ _ _ _ hk]; exact h
theorem snoc_has2 {vs : List FrV} {v : FrV} {b : Nat} (h : v.has b) : ((vs ++ [v]).getD vs.length default).has b := by
  rw [getD_snoc_eq]; exact h
/-- What a frame of the law is. -/
structure FrOk (p : Prg) (f : Fr) : Prop where
  m : f.m < p.ms.length
  loc : f.loc.length = (p.ms.getD f.m default).params.size + (p.ms.getD f.m default).locals.size
  stk : f.stk.length ≤ 12
def FrsOk (p : Prg) (fs : List Fr) : Prop := ∀ f ∈ fs, FrOk p f
theorem FrsOk.getD {p : Prg} {fs : List Fr} (h : FrsOk p fs) {i : Nat} (hi : i < fs.length) : FrOk p (fs.getD i default) := by
  refine h _ ?_
  rw [List.getD_eq_getElem?_getD, List.getElem?_eq_getElem hi, Option.getD_some]
  exact List.getElem_mem hi
theorem FrsOk.snoc {p : Prg} {fs : List Fr} {f : Fr} (h : FrsOk p fs) (hf : FrOk p f) : FrsOk p (fs ++ [f]) := fun x hx => by
  rcases List.mem_append.1 hx with h1 | h1
  · exact h x h1
  · rw [List.mem_singleton] at h1; subst h1; exact hf
theorem FrsOk.last {p : Prg} {fs : List Fr} {f : Fr} (h : FrsOk p (fs ++ [f])) : FrOk p f := h f (by simp)
theorem FrsOk.init {p : Prg} {fs : List Fr} {f : Fr} (h : FrsOk p (fs ++ [f])) : FrsOk p fs := fun x hx => h x (by simp [hx])
theorem FrOk.small {p : Prg} {f : Fr} (h : FrOk p f) (hp : p.Ok) : f.loc.length ≤ 12 ∧ f.stk.length ≤ 12 := by
  have h1 := hp.sizes f.m
  have h2 := h.loc
  exact ⟨by omega, h.stk⟩
theorem FrsOk.rows {p : Prg} {fs : List Fr} (h : FrsOk p fs) (hp : p.Ok) : ∀ i, i < fs.length → ∀ r, r < 2 → (rowF (fs.getD i default) r).length ≤ 1000 := fun i hi r hr => by
  have h1 := (h.getD hi).small hp
  unfold rowF
  split <;> omega
theorem FrsOk.roots {p : Prg} {fs : List Fr} (h : FrsOk p fs) (hp : p.Ok) (hn : fs.length ≤ 60) : (rootsL fs).length ≤ 120000 := by
  have h1 := rootsL_le fs fs.length (Nat.le_refl _) (fun j hj => by have := (h.getD hj).small hp; omega)
  rw [List.take_length] at h1
  omega
theorem StkOk.turn2 {p : Prg} {ss : List Lk} {limit words : Int} {gs : List Fr} {f f' : Fr} (h : StkOk p ss limit words (gs ++ [f])) (hm : f'.m = f.m) : StkOk p ss limit words (gs ++ [f']) := by
  refine ⟨h.len, h.ok, h.look, fun x hx => ?_, h.lim, h.wd, ?_⟩
  · rcases List.mem_append.1 hx with h1 | h1
    · exact h.meth x (by simp [h1])
    · rw [List.mem_singleton] at h1
      subst h1
      rw [hm]
      exact h.meth f (by simp)
  · rw [h.sum]
    simp [hm]
theorem StkOk.alike {p : Prg} {ss : List Lk} {limit words : Int} {gs gs' : List Fr} (h : StkOk p ss limit words gs) (ha : AlikeL gs gs') : StkOk p ss limit words gs' := by
  have he : gs'.map (fun f => frW p ss f.m) = gs.map (fun f => frW p ss f.m) := by
    refine List.ext_getElem (by simp [ha.len]) (fun i h1 h2 => ?_)
    simp only [List.length_map] at h1 h2
    have := (ha.at_ i).m
    rw [List.getD_eq_getElem?_getD, List.getD_eq_getElem?_getD, List.getElem?_eq_getElem h1, List.getElem?_eq_getElem h2, Option.getD_some, Option.getD_some] at this
    simp [this]
  refine ⟨h.len, h.ok, h.look, fun x hx => ?_, h.lim, h.wd, by rw [h.sum, he]⟩
  obtain ⟨i, hi, rfl⟩ := List.getElem_of_mem hx
  have := (ha.at_ i).m
  have hi2 : i < gs.length := by rw [ha.len]; exact hi
  rw [List.getD_eq_getElem?_getD, List.getD_eq_getElem?_getD, List.getElem?_eq_getElem hi, List.getElem?_eq_getElem hi2, Option.getD_some, Option.getD_some] at this
  rw [← this]
  exact h.meth _ (List.getElem_mem hi2)
theorem FrsOk.alike {p : Prg} {gs gs' : List Fr} (h : FrsOk p gs) (ha : AlikeL gs gs') : FrsOk p gs' := fun x hx => by
  obtain ⟨i, hi, rfl⟩ := List.getElem_of_mem hx
  have hi2 : i < gs.length := by rw [ha.len]; exact hi
  have h1 := ha.at_ i
  rw [List.getD_eq_getElem?_getD, List.getD_eq_getElem?_getD, List.getElem?_eq_getElem hi, List.getElem?_eq_getElem hi2, Option.getD_some, Option.getD_some] at h1
  have h2 := h _ (List.getElem_mem hi2)
  exact ⟨by rw [← h1.m]; exact h2.m, by rw [← h1.m, ← h1.loc.len]; exact h2.loc, by rw [← h1.stk.len]; exact h2.stk⟩
end Go.Proofs.YtopojeanbpokaaaGreatDoor

/-! FramesPlay: what the stack is told, with the law's own frames beside it. -/
/-! FramesPlay: what the stack is told, with the law's own frames beside it. -/
namespace Go.Proofs.YtopojeanbpokaaaGreatDoor
open Go.RowKit

/-- The stack holds fs, the law gs. -/
def Duo (wb W0 w : World) (sb ib : Nat) (p : Prg) (ss : List Lk) (limit n words : Int) (fs : List Fr) (wl : Value) (gs : List Fr) (ws : List FrV) : Prop :=
  ∃ cv mv lv vs, TwoAt wb W0 w sb ib p ss n cv mv limit words lv fs vs wl gs ws ∧ StkOk p ss limit words fs
/-- .. and a block that is none of theirs. -/
def Trio (wb W0 w : World) (sb ib : Nat) (p : Prg) (ss : List Lk) (limit n words : Int) (fs : List Fr) (wl : Value) (gs : List Fr) (ws : List FrV) (mb : Nat) : Prop :=
  ∃ cv mv lv vs, TwoAt wb W0 w sb ib p ss n cv mv limit words lv fs vs wl gs ws ∧ StkOk p ss limit words fs ∧ (∀ i, i < fs.length → ¬ (vs.getD i default).has mb) ∧ (∀ j, j < gs.length → ¬ (ws.getD j default).has mb)
section
variable {wb W0 w w' : World} {sb ib mb : Nat} {p : Prg} {ss : List Lk} {n : Int} {limit words : Int} {fs : List Fr} {f : Fr} {wl : Value} {gs : List Fr} {ws : List FrV}
theorem Duo.same (h : Duo wb W0 w sb ib p ss limit n words fs wl gs ws) (hu : Upd [] w w') : Duo wb W0 w' sb ib p ss limit n words fs wl gs ws := by
  obtain ⟨cv, mv, lv, vs, h1, h2⟩ := h
  exact ⟨cv, mv, lv, vs, h1.same hu, h2⟩
theorem Duo.upd (h : Duo wb W0 w sb ib p ss limit n words fs wl gs ws) : Upd [] wb w := by
  obtain ⟨cv, mv, lv, vs, h1, h2⟩ := h
  exact h1.up
theorem Duo.ok (h : Duo wb W0 w sb ib p ss limit n words fs wl gs ws) : StkOk p ss limit words fs := by
  obtain ⟨cv, mv, lv, vs, h1, h2⟩ := h
  exact h2
theorem Duo.wr (h : Duo wb W0 w sb ib p ss limit n words fs wl gs ws) : WrsAt w (sb + 1) wl gs ws := by
  obtain ⟨cv, mv, lv, vs, h1, h2⟩ := h
  exact h1.wr
theorem Duo.law {wl' : Value} {gs' : List Fr} {ws' : List FrV} {T : List Nat} (h : Duo wb W0 w sb ib p ss limit n words fs wl gs ws) (hu : Upd T w w') (hwr : WrsAt w' (sb + 1) wl' gs' ws')
    (hT : ∀ t ∈ T, wl.ownBlock = some t ∨ (∃ j, j < gs.length ∧ (ws.getD j default).has t) ∨ w.heap.size ≤ t)
    (hv : ∀ j, j < gs'.length → ∀ b, (ws'.getD j default).has b → w.heap.size ≤ b ∨ ∃ k, k < gs.length ∧ (ws.getD k default).has b) : Duo wb W0 w' sb ib p ss limit n words fs wl' gs' ws' := by
  obtain ⟨cv, mv, lv, vs, h1, h2⟩ := h
  exact ⟨cv, mv, lv, vs, h1.law hu hwr hT hv, h2⟩
theorem Duo.trio (h : Duo wb W0 w sb ib p ss limit n words fs wl gs ws) (hb : w.heap.size ≤ mb) : Trio wb W0 w sb ib p ss limit n words fs wl gs ws mb := by
  obtain ⟨cv, mv, lv, vs, h1, h2⟩ := h
  exact ⟨cv, mv, lv, vs, h1, h2, fun i hi hh => by have := h1.st.frs.base hi hh; omega, fun j hj hh => by have := h1.wr.base hj hh; omega⟩
theorem Trio.duo (h : Trio wb W0 w sb ib p ss limit n words fs wl gs ws mb) : Duo wb W0 w sb ib p ss limit n words fs wl gs ws := by
  obtain ⟨cv, mv, lv, vs, h1, h2, h3⟩ := h
  exact ⟨cv, mv, lv, vs, h1, h2⟩
theorem Trio.same (h : Trio wb W0 w sb ib p ss limit n words fs wl gs ws mb) (hu : Upd [] w w') : Trio wb W0 w' sb ib p ss limit n words fs wl gs ws mb := by
  obtain ⟨cv, mv, lv, vs, h1, h2⟩ := h
  exact ⟨cv, mv, lv, vs, h1.same hu, h2⟩
/-- What is written into that block is not theirs. -/
theorem Trio.other (h : Trio wb W0 w sb ib p ss limit n words fs wl gs ws mb) {cur : Array Value} (hm : w.heap[mb]? = some (.cells cur 44)) (hsb : sb < mb) (hu : Upd [mb] w w') : Trio wb W0 w' sb ib p ss limit n words fs wl gs ws mb := by
  obtain ⟨cv, mv, lv, vs, h1, h2, h3, h4⟩ := h
  have hib := h1.st.ib_lt
  have ha := h1.st.at_
  refine ⟨cv, mv, lv, vs, ⟨⟨hu.heap h1.st.box (by simp; omega), h1.st.frs.updT hu (fun r hr hb => ?_) (fun r hr => ?_), h1.st.info.keep hu (fun q hq => ?_), h1.st.meths, ha⟩, h1.wr.updT hu (fun r hr hb => ?_) (fun r hr => ?_), h1.ap, h1.up.trans' hu (fun q hq hl => ?_), h1.base⟩, h2, h3, h4⟩
  all_goals rw [List.mem_singleton] at *
  · subst hr
    exact own_heap_ne h1.st.frs.row hm (by decide) hb
  · subst hr
    exact h3
  · omega
  · subst hr
    exact own_heap_ne h1.wr.row hm (by decide) hb
  · subst hr
    exact h4
  · have := h1.base
    omega
theorem duo_len (h : Duo wb W0 w sb ib p ss limit n words fs wl gs ws) :
    Calls Tryz.prog 22 #[.pointer (some ⟨sb, 0, none⟩)] w fun e w' => e = .returned (.int .i64 fs.length) ∧ w = w' := by
  obtain ⟨cv, mv, lv, vs, h1, h2⟩ := h
  exact slen_any _ _ _ _ _ _ _ _ _ _ _ _ _ _ _ h1.st
theorem duo_words (h : Duo wb W0 w sb ib p ss limit n words fs wl gs ws) :
    Calls Tryz.prog 23 #[.pointer (some ⟨sb, 0, none⟩)] w fun e w' => e = .returned (.int .i64 words) ∧ w = w' := by
  obtain ⟨cv, mv, lv, vs, h1, h2⟩ := h
  exact swords_any _ _ _ _ _ _ _ _ _ _ _ _ _ _ _ h1.st
theorem duo_roots (h : Duo wb W0 w sb ib p ss limit n words fs wl gs ws) (hf : FrsOk p fs) (hn : fs.length ≤ 60) :
    Calls Tryz.prog 25 #[.pointer (some ⟨sb, 0, none⟩)] w fun e w' => ∃ u, e = .returned u ∧ OwnI w' w.heap.size 3 u (rootsL fs) ∧ Upd [] w w' := by
  obtain ⟨cv, mv, lv, vs, h1, h2⟩ := h
  exact sroots_any _ _ _ _ _ _ _ _ _ _ _ _ _ _ _ h1.st (by omega) (hf.rows h2.ok) (by have := hf.roots h2.ok hn; omega)
theorem duo_top_none (h : Duo wb W0 w sb ib p ss limit n words [] wl gs ws) :
    Calls Tryz.prog 26 #[.pointer (some ⟨sb, 0, none⟩)] w fun e w' => e = .returned (.tuple #[.int .i64 0, .int .i64 0, .bool false]) ∧ Upd [] w w' := by
  obtain ⟨cv, mv, lv, vs, h1, h2⟩ := h
  exact stopt_none _ h1.st
theorem duo_top (h : Duo wb W0 w sb ib p ss limit n words (fs ++ [f]) wl gs ws) :
    Calls Tryz.prog 26 #[.pointer (some ⟨sb, 0, none⟩)] w fun e w' => e = .returned (.tuple #[.int .i64 f.m, .int .i64 f.pc, .bool true]) ∧ Upd [] w w' := by
  obtain ⟨cv, mv, lv, vs, h1, h2⟩ := h
  obtain ⟨vs', v, rfl, hl⟩ := vs_split2 (n := fs.length) (by rw [h1.st.frs.len]; simp)
  exact stopt_any _ _ _ _ h1.st
theorem duo_local_none (i : Int) (h : Duo wb W0 w sb ib p ss limit n words [] wl gs ws) :
    Calls Tryz.prog 27 #[.pointer (some ⟨sb, 0, none⟩), .int .i64 i] w fun e w' => e = .returned (.tuple #[.agg #[.bool false, .int .i64 0], .bool false]) ∧ Upd [] w w' := by
  obtain ⟨cv, mv, lv, vs, h1, h2⟩ := h
  exact slocal_none _ _ h1.st
theorem duo_local (i : Int) (h : Duo wb W0 w sb ib p ss limit n words (fs ++ [f]) wl gs ws) :
    Calls Tryz.prog 27 #[.pointer (some ⟨sb, 0, none⟩), .int .i64 i] w fun e w' => e = .returned (locV f i) ∧ Upd [] w w' := by
  obtain ⟨cv, mv, lv, vs, h1, h2⟩ := h
  obtain ⟨vs', v, rfl, hl⟩ := vs_split2 (n := fs.length) (by rw [h1.st.frs.len]; simp)
  exact slocal_any _ _ _ _ _ h1.st
theorem duo_at_out (i : Int) (h : Duo wb W0 w sb ib p ss limit n words fs wl gs ws) (hi : i < 0 ∨ (fs.length : Int) ≤ i) :
    Calls Tryz.prog 28 #[.pointer (some ⟨sb, 0, none⟩), .int .i64 i] w fun e w' => e = .returned (.tuple #[.int .i64 0, .int .i64 0, .slice none 0 0, .slice none 0 0, .bool false]) ∧ Upd [] w w' := by
  obtain ⟨cv, mv, lv, vs, h1, h2⟩ := h
  exact sat_out _ _ _ h1.st hi
theorem duo_at (i : Nat) (h : Duo wb W0 w sb ib p ss limit n words fs wl gs ws) (hf : FrsOk p fs) (hi : i < fs.length) :
    Calls Tryz.prog 28 #[.pointer (some ⟨sb, 0, none⟩), .int .i64 i] w fun e w' => ∃ u1 u2, e = .returned (.tuple #[.int .i64 (fs.getD i default).m, .int .i64 (fs.getD i default).pc, u1, u2, .bool true]) ∧ OwnSl w' w.heap.size u1 (fs.getD i default).loc ∧ OwnSl w' w.heap.size u2 (fs.getD i default).stk ∧ Upd [] w w' := by
  obtain ⟨cv, mv, lv, vs, h1, h2⟩ := h
  have hs := (hf.getD hi).small h2.ok
  exact sat_any _ _ _ h1.st hi (by omega) (by omega)
theorem trio_push {E : Nat → Addr} {k B : Nat} {av : Value} {xs : List Slt} (h : Trio wb W0 w sb ib p ss limit n words fs wl gs ws mb) (hS : SentP w E) (hk : k < p.ms.length) (ha : OwnSl w B av xs) (hab : av.ownBlock = some mb) (hsb : sb < mb)
    (hal : xs.length = (p.ms.getD k default).params.size) (hfit : ∀ i (hi : i < (p.ms.getD k default).params.size), fitsB (xs.getD i default) ((((p.ms.getD k default).params[i]'hi).toNat : Int)) = true) (h0 : 0 ≤ n) (h1 : n ≤ 900000000) :
    Calls Tryz.prog 9 #[.pointer (some ⟨sb, 0, none⟩), .int .i64 k, av] w fun e w' => OwnSl w' B av xs ∧ KeepD w w' ∧ ((frW p ss k ≤ limit - words ∧ e = .returned .nilIface ∧ Trio wb W0 w' sb ib p ss limit (n + 1) (words + frW p ss k) (fs ++ [newFr p k xs]) wl gs ws mb) ∨ (limit - words < frW p ss k ∧ e = .returned (sErr E 13) ∧ Trio wb W0 w' sb ib p ss limit (n + 1) words fs wl gs ws mb)) := by
  obtain ⟨cv, mv, lv, vs, h2, h3, h4, h5⟩ := h
  have hib := h2.st.ib_lt
  obtain ⟨ab, hav, hax⟩ := ha.read
  have hmlt := (World.ownsRow.lt ha mb hab).2
  have hai : xs = [] ∨ ab ≠ ib := by
    by_cases e : xs = []
    · exact .inl e
    · refine .inr ?_
      rcases hav.1 with ⟨_, h6⟩ | ⟨c9, h6⟩
      · exact absurd h6 e
      · rw [h6] at hab
        simp only [Value.ownBlock, Option.some.injEq] at hab
        omega
  refine (spush_own E W0 w sb ib p ss 0 n cv mv limit words lv fs vs k av ab xs h2.st h3 hS hk hav hai hal hfit h0 h1).mono ?_
  rintro e w2 ⟨hcase, T, hT, hu⟩
  have hl := h2.st.frs.len
  have hTn : ∀ t ∈ T, t = ib ∨ t = sb ∨ lv.ownBlock = some t ∨ (∃ i, i < fs.length ∧ (vs.getD i default).has t) ∨ w.heap.size ≤ t := fun t ht => by
    rcases hT t ht with e | e | ⟨e, _⟩
    · exact .inl e
    · exact .inr (.inl e)
    · exact .inr (.inr (.inl e))
  have hown : OwnSl w2 B av xs := ha.upd hu (fun q hq hm => by
    have hqm : q = mb := by rw [hab] at hq; injection hq with hq; exact hq.symm
    subst hqm
    obtain ⟨cur, hc⟩ := OwnSl.typed ha hab
    rcases hT q hm with e | e | ⟨e, _⟩
    · omega
    · omega
    · exact own_heap_ne h2.st.frs.row hc (by decide) e)
  refine ⟨hown, h2.keep hu hTn, ?_⟩
  rcases hcase with ⟨h6, rfl, ⟨lv', v', ⟨_, hv'⟩, hst⟩, hok⟩ | ⟨h6, rfl, hst⟩
  · refine .inl ⟨h6, rfl, cv, mv, lv', vs ++ [v'], h2.stack hu hst hTn (fun i hi b hb => ?_), hok, fun i hi hb => ?_, h5⟩
    · rcases has_snoc (by simp at hi; omega) hb with ⟨k2, hk2, h7⟩ | h7
      · exact .inr ⟨k2, by omega, h7⟩
      · exact .inl (hv' b h7)
    · rcases has_snoc (by simp at hi; omega) hb with ⟨k2, hk2, h7⟩ | h7
      · exact h4 k2 (by omega) h7
      · have := hv' mb h7
        omega
  · exact .inr ⟨h6, rfl, cv, mv, lv, vs, h2.stack hu hst hTn (fun i hi b hb => .inr ⟨i, hi, hb⟩), h3, h4, h5⟩
theorem trio_push_index {E : Nat → Addr} {k : Int} {a : Option Addr} {an ac : Nat} (h : Trio wb W0 w sb ib p ss limit n words fs wl gs ws mb) (hS : SentAll w E) (hk : ¬ (0 ≤ k ∧ k < (p.ms.length : Int))) :
    Calls Tryz.prog 9 #[.pointer (some ⟨sb, 0, none⟩), .int .i64 k, .slice a an ac] w fun e w' => e = .returned (sErr E 2) ∧ w' = w := by
  obtain ⟨cv, mv, lv, vs, h2, h3, h4⟩ := h
  exact spush_index _ _ _ _ _ _ _ _ _ _ _ _ _ _ _ _ _ _ _ _ h2.st hS hk
theorem trio_push_shape {E : Nat → Addr} {k B : Nat} {av : Value} {xs : List Slt} (h : Trio wb W0 w sb ib p ss limit n words fs wl gs ws mb) (hS : SentAll w E) (hk : k < p.ms.length) (ha : OwnSl w B av xs) (hxs : xs.length ≤ 100000)
    (hfit : xs.length = (p.ms.getD k default).params.size → ∃ i, ∃ hi : i < (p.ms.getD k default).params.size, fitsB (xs.getD i default) ((((p.ms.getD k default).params[i]'hi).toNat : Int)) = false) :
    Calls Tryz.prog 9 #[.pointer (some ⟨sb, 0, none⟩), .int .i64 k, av] w fun e w' => e = .returned (sErr E 4) ∧ Upd [] w w' := by
  obtain ⟨cv, mv, lv, vs, h2, h3, h4⟩ := h
  obtain ⟨ab, hav, hax⟩ := ha.read
  exact spush_shape _ _ _ _ _ _ _ _ _ _ _ _ _ _ _ _ _ _ ab _ h2.st hS hk hav hxs hfit
theorem duo_pop_none (h : Duo wb W0 w sb ib p ss limit n words [] wl gs ws) :
    Calls Tryz.prog 13 #[.pointer (some ⟨sb, 0, none⟩)] w fun e w' => e = .returned (.bool false) ∧ Upd [] w w' := by
  obtain ⟨cv, mv, lv, vs, h1, h2⟩ := h
  exact spop_none _ _ _ _ _ _ _ _ _ _ _ _ _ _ h1.st
theorem duo_pop (h : Duo wb W0 w sb ib p ss limit n words (fs ++ [f]) wl gs ws) (h0 : 0 ≤ n) (h1 : n ≤ 900000000) :
    Calls Tryz.prog 13 #[.pointer (some ⟨sb, 0, none⟩)] w fun e w' => e = .returned (.bool true) ∧ Duo wb W0 w' sb ib p ss limit (n + 1) (words - frW p ss f.m) fs wl gs ws ∧ KeepD w w' := by
  obtain ⟨cv, mv, lv, vs, h2, h3⟩ := h
  obtain ⟨vs', v, rfl, hl⟩ := vs_split2 (n := fs.length) (by rw [h2.st.frs.len]; simp)
  refine (spop_own W0 w sb ib p ss 0 n cv mv limit words lv fs vs' f v h2.st h3 h0 h1).mono ?_
  rintro e w2 ⟨rfl, ⟨lv', hst, hlv⟩, hok, hu⟩
  have hTn : ∀ t ∈ [sb, ib], t = ib ∨ t = sb ∨ lv.ownBlock = some t ∨ (∃ i, i < (fs ++ [f]).length ∧ ((vs' ++ [v]).getD i default).has t) ∨ w.heap.size ≤ t := fun t ht => by
    simp only [List.mem_cons, List.not_mem_nil, or_false] at ht
    rcases ht with rfl | rfl
    · exact .inr (.inl rfl)
    · exact .inl rfl
  exact ⟨rfl, ⟨cv, mv, lv', vs', h2.stack hu hst hTn (fun i hi b hb => .inr ⟨i, by simp; omega, snoc_has (by omega) hb⟩), hok⟩, h2.keep hu hTn⟩
theorem duo_jump_none (pc : Int) (h : Duo wb W0 w sb ib p ss limit n words [] wl gs ws) :
    Calls Tryz.prog 14 #[.pointer (some ⟨sb, 0, none⟩), .int .i64 pc] w fun e w' => e = .returned (.bool false) ∧ Upd [] w w' := by
  obtain ⟨cv, mv, lv, vs, h1, h2⟩ := h
  exact sjump_none _ _ _ _ _ _ _ _ _ _ _ _ _ _ _ h1.st
theorem duo_jump_no (pc : Int) (h : Duo wb W0 w sb ib p ss limit n words (fs ++ [f]) wl gs ws) (hpc : ¬ (0 ≤ pc ∧ pc < ((p.ms.getD f.m default).code.length : Int))) :
    Calls Tryz.prog 14 #[.pointer (some ⟨sb, 0, none⟩), .int .i64 pc] w fun e w' => e = .returned (.bool false) ∧ Upd [] w w' := by
  obtain ⟨cv, mv, lv, vs, h1, h2⟩ := h
  obtain ⟨vs', v, rfl, hl⟩ := vs_split2 (n := fs.length) (by rw [h1.st.frs.len]; simp)
  exact sjump_no _ _ _ _ _ _ _ _ _ _ _ _ _ _ _ _ _ _ h1.st (h2.meth f (by simp)) hpc
theorem duo_jump (pc : Int) (h : Duo wb W0 w sb ib p ss limit n words (fs ++ [f]) wl gs ws) (hpc : 0 ≤ pc ∧ pc < ((p.ms.getD f.m default).code.length : Int)) :
    Calls Tryz.prog 14 #[.pointer (some ⟨sb, 0, none⟩), .int .i64 pc] w fun e w' => e = .returned (.bool true) ∧ Duo wb W0 w' sb ib p ss limit n words (fs ++ [{ f with pc := pc }]) wl gs ws ∧ KeepD w w' := by
  obtain ⟨cv, mv, lv, vs, h1, h2⟩ := h
  obtain ⟨vs', v, rfl, hl⟩ := vs_split2 (n := fs.length) (by rw [h1.st.frs.len]; simp)
  refine (sjump_own W0 w sb ib p ss 0 n cv mv limit words lv fs vs' f v pc h1.st (h2.meth f (by simp)) hpc).mono ?_
  rintro e w2 ⟨rfl, hst, g, hg, hg2, hu⟩
  have hTn : ∀ t ∈ [g], t = ib ∨ t = sb ∨ lv.ownBlock = some t ∨ (∃ i, i < (fs ++ [f]).length ∧ ((vs' ++ [v]).getD i default).has t) ∨ w.heap.size ≤ t := fun t ht => by
    rw [List.mem_singleton] at ht
    subst ht
    exact .inr (.inr (.inl hg))
  exact ⟨rfl, ⟨cv, mv, lv, vs' ++ [v], h1.stack hu hst hTn (fun i hi b hb => .inr ⟨i, by simpa using hi, hb⟩), h2.turn2 rfl⟩, h1.keep hu hTn⟩
theorem duo_setlocal_none (i : Int) (x : Slt) (h : Duo wb W0 w sb ib p ss limit n words [] wl gs ws) :
    Calls Tryz.prog 15 #[.pointer (some ⟨sb, 0, none⟩), .int .i64 i, .agg #[.bool x.ref, .int .i64 x.n]] w fun e w' => e = .returned (.bool false) ∧ Upd [] w w' := by
  obtain ⟨cv, mv, lv, vs, h1, h2⟩ := h
  exact ssetlocal_none _ _ _ _ _ _ _ _ _ _ _ _ _ _ _ _ h1.st
theorem duo_setlocal_out (i : Int) (x : Slt) (h : Duo wb W0 w sb ib p ss limit n words (fs ++ [f]) wl gs ws) (hi : ¬ (0 ≤ i ∧ i < (f.loc.length : Int))) :
    Calls Tryz.prog 15 #[.pointer (some ⟨sb, 0, none⟩), .int .i64 i, .agg #[.bool x.ref, .int .i64 x.n]] w fun e w' => e = .returned (.bool false) ∧ Upd [] w w' := by
  obtain ⟨cv, mv, lv, vs, h1, h2⟩ := h
  obtain ⟨vs', v, rfl, hl⟩ := vs_split2 (n := fs.length) (by rw [h1.st.frs.len]; simp)
  exact ssetlocal_out _ _ _ _ _ _ _ _ _ _ _ _ _ _ _ _ _ _ _ h1.st hi
theorem duo_setlocal_unfit (i : Nat) (x : Slt) (h : Duo wb W0 w sb ib p ss limit n words (fs ++ [f]) wl gs ws) (hi : i < f.loc.length) (hik : i < (bs (kindsL (p.ms.getD f.m default))).size) (hfit : fitsB x ((((bs (kindsL (p.ms.getD f.m default)))[i]'hik).toNat : Int)) = false) :
    Calls Tryz.prog 15 #[.pointer (some ⟨sb, 0, none⟩), .int .i64 i, .agg #[.bool x.ref, .int .i64 x.n]] w fun e w' => e = .returned (.bool false) ∧ Upd [] w w' := by
  obtain ⟨cv, mv, lv, vs, h1, h2⟩ := h
  obtain ⟨vs', v, rfl, hl⟩ := vs_split2 (n := fs.length) (by rw [h1.st.frs.len]; simp)
  have hz := h2.ok.sizes f.m
  exact ssetlocal_unfit _ _ _ _ _ _ _ _ _ _ _ _ _ _ _ _ _ _ _ h1.st (h2.meth f (by simp)) hi (by omega) (by omega) hik hfit
theorem duo_setlocal (i : Nat) (x : Slt) (h : Duo wb W0 w sb ib p ss limit n words (fs ++ [f]) wl gs ws) (hi : i < f.loc.length) (hik : i < (bs (kindsL (p.ms.getD f.m default))).size) (hfit : fitsB x ((((bs (kindsL (p.ms.getD f.m default)))[i]'hik).toNat : Int)) = true) :
    Calls Tryz.prog 15 #[.pointer (some ⟨sb, 0, none⟩), .int .i64 i, .agg #[.bool x.ref, .int .i64 x.n]] w fun e w' => e = .returned (.bool true) ∧ Duo wb W0 w' sb ib p ss limit n words (fs ++ [{ f with loc := f.loc.set i x }]) wl gs ws ∧ KeepD w w' := by
  obtain ⟨cv, mv, lv, vs, h1, h2⟩ := h
  obtain ⟨vs', v, rfl, hl⟩ := vs_split2 (n := fs.length) (by rw [h1.st.frs.len]; simp)
  have hz := h2.ok.sizes f.m
  refine (ssetlocal_ok W0 w sb ib p ss 0 n cv mv limit words lv fs vs' f v i x h1.st (h2.meth f (by simp)) hi (by omega) (by omega) hik hfit).mono ?_
  rintro e w2 ⟨rfl, hst, q, hq, hq2, hu⟩
  have hTn : ∀ t ∈ [q], t = ib ∨ t = sb ∨ lv.ownBlock = some t ∨ (∃ i, i < (fs ++ [f]).length ∧ ((vs' ++ [v]).getD i default).has t) ∨ w.heap.size ≤ t := fun t ht => by
    rw [List.mem_singleton] at ht
    subst ht
    exact .inr (.inr (.inr (.inl ⟨fs.length, by simp, by rw [← hl]; exact snoc_has2 (.inl hq)⟩)))
  exact ⟨rfl, ⟨cv, mv, lv, vs' ++ [v], h1.stack hu hst hTn (fun i hi b hb => .inr ⟨i, by simpa using hi, hb⟩), h2.turn2 rfl⟩, h1.keep hu hTn⟩
theorem duo_lay_none (x : Slt) (h : Duo wb W0 w sb ib p ss limit n words [] wl gs ws) :
    Calls Tryz.prog 16 #[.pointer (some ⟨sb, 0, none⟩), .agg #[.bool x.ref, .int .i64 x.n]] w fun e w' => e = .returned (.bool false) ∧ Upd [] w w' := by
  obtain ⟨cv, mv, lv, vs, h1, h2⟩ := h
  exact slay_none _ _ _ _ _ _ _ _ _ _ _ _ _ _ _ h1.st
theorem duo_lay_no (x : Slt) (h : Duo wb W0 w sb ib p ss limit n words (fs ++ [f]) wl gs ws) (hs : f.stk.length ≤ 12) (hx : ¬ (f.stk.length < 12 ∧ (x.ref = true → 0 ≤ x.n))) :
    Calls Tryz.prog 16 #[.pointer (some ⟨sb, 0, none⟩), .agg #[.bool x.ref, .int .i64 x.n]] w fun e w' => e = .returned (.bool false) ∧ Upd [] w w' := by
  obtain ⟨cv, mv, lv, vs, h1, h2⟩ := h
  obtain ⟨vs', v, rfl, hl⟩ := vs_split2 (n := fs.length) (by rw [h1.st.frs.len]; simp)
  by_cases hf : f.stk.length < 12
  · obtain ⟨r, m⟩ := x
    simp only at hx
    cases r with
    | false => exact absurd ⟨hf, fun e => by cases e⟩ hx
    | true =>
      have hm : m < 0 := Int.not_le.1 (fun hm => hx ⟨hf, fun _ => hm⟩)
      exact slay_neg _ _ _ _ _ _ _ _ _ _ _ _ _ _ _ _ _ _ h1.st hf hm
  · exact slay_full _ _ _ _ _ _ _ _ _ _ _ _ _ _ _ _ _ _ h1.st (by omega)
theorem duo_lay (x : Slt) (h : Duo wb W0 w sb ib p ss limit n words (fs ++ [f]) wl gs ws) (hs : f.stk.length < 12) (hx : x.ref = true → 0 ≤ x.n) :
    Calls Tryz.prog 16 #[.pointer (some ⟨sb, 0, none⟩), .agg #[.bool x.ref, .int .i64 x.n]] w fun e w' => e = .returned (.bool true) ∧ Duo wb W0 w' sb ib p ss limit n words (fs ++ [{ f with stk := f.stk ++ [x] }]) wl gs ws ∧ KeepD w w' := by
  obtain ⟨cv, mv, lv, vs, h1, h2⟩ := h
  obtain ⟨vs', v, rfl, hl⟩ := vs_split2 (n := fs.length) (by rw [h1.st.frs.len]; simp)
  refine (slay_own W0 w sb ib p ss 0 n cv mv limit words lv fs vs' f v x h1.st hs hx).mono ?_
  rintro e w2 ⟨rfl, sv', hst, hsv, g, hg, T, hT, hu⟩
  have hTn : ∀ t ∈ T, t = ib ∨ t = sb ∨ lv.ownBlock = some t ∨ (∃ i, i < (fs ++ [f]).length ∧ ((vs' ++ [v]).getD i default).has t) ∨ w.heap.size ≤ t := fun t ht => by
    rcases (hT t ht).2 with e | e
    · exact .inr (.inr (.inr (.inl ⟨fs.length, by simp, by rw [← hl]; exact snoc_has2 (.inr e)⟩)))
    · subst e
      exact .inr (.inr (.inl hg))
  refine ⟨rfl, ⟨cv, mv, lv, vs' ++ [⟨v.lv, sv'⟩], h1.stack hu hst hTn (fun i hi b hb => ?_), h2.turn2 rfl⟩, h1.keep hu hTn⟩
  · have hlast : ∀ c, v.has c → ∃ k, k < (fs ++ [f]).length ∧ ((vs' ++ [v]).getD k default).has c := fun c hc => ⟨fs.length, by simp, by rw [← hl]; exact snoc_has2 hc⟩
    rcases has_snoc (by simp at hi; omega) hb with ⟨k, hk, h7⟩ | h7
    · exact .inr ⟨k, by simp; omega, snoc_has hk h7⟩
    · rcases h7 with h7 | h7
      · exact .inr (hlast b (.inl h7))
      · rcases hsv with h8 | ⟨b', h8, h9⟩
        · exact .inr (hlast b (.inr (h8.symm.trans h7)))
        · have h10 := h8.symm.trans h7
          injection h10 with h10
          exact .inl (by omega)
theorem duo_take_none (h : Duo wb W0 w sb ib p ss limit n words [] wl gs ws) :
    Calls Tryz.prog 17 #[.pointer (some ⟨sb, 0, none⟩)] w fun e w' => e = .returned (.tuple #[.agg #[.bool false, .int .i64 0], .bool false]) ∧ Upd [] w w' := by
  obtain ⟨cv, mv, lv, vs, h1, h2⟩ := h
  exact stake_none _ _ _ _ _ _ _ _ _ _ _ _ _ _ h1.st
theorem duo_take_empty (h : Duo wb W0 w sb ib p ss limit n words (fs ++ [f]) wl gs ws) (hf : f.stk = []) :
    Calls Tryz.prog 17 #[.pointer (some ⟨sb, 0, none⟩)] w fun e w' => e = .returned (.tuple #[.agg #[.bool false, .int .i64 0], .bool false]) ∧ Upd [] w w' := by
  obtain ⟨cv, mv, lv, vs, h1, h2⟩ := h
  obtain ⟨vs', v, rfl, hl⟩ := vs_split2 (n := fs.length) (by rw [h1.st.frs.len]; simp)
  exact stake_empty _ _ _ _ _ _ _ _ _ _ _ _ _ _ _ _ _ h1.st hf
theorem duo_take {ys : List Slt} {x : Slt} (h : Duo wb W0 w sb ib p ss limit n words (fs ++ [f]) wl gs ws) (hf : f.stk = ys ++ [x]) (hy : ys.length ≤ 12) :
    Calls Tryz.prog 17 #[.pointer (some ⟨sb, 0, none⟩)] w fun e w' => e = .returned (.tuple #[.agg #[.bool x.ref, .int .i64 x.n], .bool true]) ∧ Duo wb W0 w' sb ib p ss limit n words (fs ++ [{ f with stk := ys }]) wl gs ws ∧ KeepD w w' := by
  obtain ⟨cv, mv, lv, vs, h1, h2⟩ := h
  obtain ⟨vs', v, rfl, hl⟩ := vs_split2 (n := fs.length) (by rw [h1.st.frs.len]; simp)
  refine (stake_own W0 w sb ib p ss 0 n cv mv limit words lv fs vs' f v ys x h1.st hf (by omega)).mono ?_
  rintro e w2 ⟨rfl, sv', g, hst, ⟨hsv, hg⟩, hg2, hu⟩
  have hTn : ∀ t ∈ [g], t = ib ∨ t = sb ∨ lv.ownBlock = some t ∨ (∃ i, i < (fs ++ [f]).length ∧ ((vs' ++ [v]).getD i default).has t) ∨ w.heap.size ≤ t := fun t ht => by
    rw [List.mem_singleton] at ht
    subst ht
    exact .inr (.inr (.inl hg))
  exact ⟨rfl, ⟨cv, mv, lv, vs' ++ [⟨v.lv, sv'⟩], h1.stack hu hst hTn (fun i hi b hb => .inr ⟨i, by simpa using hi, has_turn hsv i b hb⟩), h2.turn2 rfl⟩, h1.keep hu hTn⟩
theorem duo_setroots {nv : Value} {nb : Nat} {ns : List Int} (h : Duo wb W0 w sb ib p ss limit n words fs wl gs ws) (hf : FrsOk p fs) (hn : fs.length ≤ 60) (hv : IntsV w nv nb ns) (hb : ns = [] ∨ ∃ cur, w.heap[nb]? = some (.cells cur 3)) (hl : ns.length = (rootsL fs).length) (hx : ∀ x ∈ ns, 0 ≤ x) :
    Calls Tryz.prog 20 #[.pointer (some ⟨sb, 0, none⟩), nv] w fun e w' => e = .returned (.bool true) ∧ (∃ fs', Duo wb W0 w' sb ib p ss limit n words fs' wl gs ws ∧ AlikeL fs fs' ∧ rootsL fs' = ns) ∧ (∀ (q : Nat) (cur : Array Value), w.heap[q]? = some (Obj.cells cur 3) → w'.heap[q]? = some (Obj.cells cur 3)) ∧ KeepD w w' := by
  obtain ⟨cv, mv, lv, vs, h1, h2⟩ := h
  have hr := hf.roots h2.ok hn
  refine (ssetroots_own W0 w sb ib p ss 0 n cv mv limit words lv fs vs nv nb ns h1.st (by omega) (hf.rows h2.ok) hv hb hl (by omega) hx).mono ?_
  rintro e w2 ⟨rfl, ⟨fs', hst, hal, hro⟩, hint, T, hT, hu⟩
  have hTn : ∀ t ∈ T, t = ib ∨ t = sb ∨ lv.ownBlock = some t ∨ (∃ i, i < fs.length ∧ (vs.getD i default).has t) ∨ w.heap.size ≤ t := fun t ht => by
    rcases (hT t ht).2 with e | e
    · exact .inr (.inr (.inr (.inr e)))
    · exact .inr (.inr (.inr (.inl e)))
  exact ⟨rfl, ⟨fs', ⟨cv, mv, lv, vs, h1.stack hu hst hTn (fun i hi b hb => .inr ⟨i, by rw [hal.len]; exact hi, hb⟩), h2.alike hal⟩, hal, hro⟩, hint, h1.keep hu hTn⟩
theorem duo_setroots_no {nv : Value} {nb : Nat} {ns : List Int} (h : Duo wb W0 w sb ib p ss limit n words fs wl gs ws) (hf : FrsOk p fs) (hn : fs.length ≤ 60) (hv : IntsV w nv nb ns) (hl2 : ns.length ≤ 1000000) (hx : ns.length ≠ (rootsL fs).length ∨ ∃ x ∈ ns, x < 0) :
    Calls Tryz.prog 20 #[.pointer (some ⟨sb, 0, none⟩), nv] w fun e w' => e = .returned (.bool false) ∧ Upd [] w w' := by
  obtain ⟨cv, mv, lv, vs, h1, h2⟩ := h
  have hr := hf.roots h2.ok hn
  exact ssetroots_no _ _ _ _ _ _ _ _ _ _ _ _ _ _ _ _ nb _ h1.st (by omega) (hf.rows h2.ok) hv (by omega) (by omega) hx
end
end Go.Proofs.YtopojeanbpokaaaGreatDoor
