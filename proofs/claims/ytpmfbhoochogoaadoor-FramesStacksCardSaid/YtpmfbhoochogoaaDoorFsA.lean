/- FramesStacks: a stack in the law's hands. -/
import Derived.Test.YtpmfbhoochogoaaDoorFrO
import Derived.Test.YtpmfbhoochogoaaDoorFrU
/-! FramesStacks: a stack in the law's hands. -/
namespace Go.Proofs.YtpmfbhoochogoaaDoor
open Go.RowKit

def sm0 : Meth := ⟨⟨#[]⟩, ⟨#[]⟩, ⟨#[]⟩, [⟨33, 0, 0, 0⟩]⟩
abbrev sP : Prg := ⟨[], [sm0]⟩
theorem sP_ok : sP.Ok := okB_ok (by decide +kernel)
theorem sP_look : ∃ s, lookM sP sm0 = .ok s ∧ s.most = 0 := look_most (b := true) (l := []) (by decide +kernel)
def sF (st : List Slt) : Fr := ⟨0, 0, [], st⟩
theorem newFr_s : newFr sP 0 [] = sF [] := by
  unfold newFr
  have h : (sP.ms.getD 0 default).locals = ⟨#[]⟩ := rfl
  rw [h, zeroL_nil]
  rfl
theorem sP_words (ss : List Lk) (h : lookM sP sm0 = .ok (ss.getD 0 default)) : frW sP ss 0 = 4 := by
  obtain ⟨s, hs, hmo⟩ := sP_look
  rw [hs] at h
  injection h with h
  unfold frW
  rw [← h, hmo]
  rfl
structure SkAt (w W0 W : World) (ib : Nat) (ss : List Lk) (cv mv : Value) (fs : List Fr) (nn : Int) : Prop where
  stk : ∃ lv vs, StkAt W0 W W0.heap.size ib sP ss 0 nn cv mv 100 (4 * (fs.length : Int)) lv fs vs
  ok : StkOk sP ss 100 (4 * (fs.length : Int)) fs
  upd : Upd [] w W
theorem SkAt.same {w W0 W W' : World} {ib : Nat} {ss : List Lk} {cv mv : Value} {fs : List Fr} {nn : Int} (h : SkAt w W0 W ib ss cv mv fs nn) (hu : Upd [] W W') : SkAt w W0 W' ib ss cv mv fs nn := by
  obtain ⟨⟨lv, vs, h1⟩, h2, h3⟩ := h
  exact ⟨⟨lv, vs, h1.same hu⟩, h2, h3.trans hu⟩
theorem StkOk.turn {p : Prg} {ss : List Lk} {limit words : Int} {gs : List Fr} {f f' : Fr} (h : StkOk p ss limit words (gs ++ [f])) (hm : f'.m = f.m) : StkOk p ss limit words (gs ++ [f']) := by
  refine ⟨h.len, h.ok, h.look, fun x hx => ?_, h.lim, h.wd, ?_⟩
  · rcases List.mem_append.1 hx with hx | hx
    · exact h.meth x (by simp [hx])
    · rw [List.mem_singleton] at hx
      rw [hx, hm]
      exact h.meth f (by simp)
  · have h1 := h.sum
    rw [h1, List.map_append, List.map_append]
    simp [hm]
theorem vs_split {w : World} {B : Nat} {lv : Value} {gs : List Fr} {f : Fr} {vs : List FrV} (h : FrsAt w B lv (gs ++ [f]) vs) : ∃ vs' v, vs = vs' ++ [v] := by
  have hl := h.len
  rcases List.eq_nil_or_concat vs with rfl | ⟨a, b, rfl⟩
  · simp at hl
  · exact ⟨a, b, by simp⟩
section
variable {w W0 W : World} {ib : Nat} {ss : List Lk} {cv mv : Value} {nn : Int}
theorem kpush {fs : List Fr} {E : Nat → Addr} (h : SkAt w W0 W ib ss cv mv fs nn) (hn : fs.length ≤ 5) (hS : SentP w E) (hlk : lookM sP sm0 = .ok (ss.getD 0 default)) (hib : w.heap.size ≤ ib ∧ w.heap.size ≤ W0.heap.size) (h0 : 0 ≤ nn) (h1 : nn ≤ 900000000) :
    Calls Tryd.prog 18 #[.pointer (some ⟨W0.heap.size, 0, none⟩), .int .i64 0, .slice none 0 0] W fun e W' => e = .returned .nilIface ∧ SkAt w W0 W' ib ss cv mv (fs ++ [sF []]) (nn + 1) := by
  obtain ⟨⟨lv, vs, hst⟩, hok, hu⟩ := h
  have hfw := sP_words ss hlk
  refine (spush_any E W0 W W0.heap.size ib sP ss 0 nn cv mv 100 (4 * (fs.length : Int)) lv _ vs 0 (.slice none 0 0) 0 [] hst hok (hS.upd hu) (by decide) (SltV.nil _ _) (.inl rfl) rfl (fun j hj => absurd hj (Nat.not_lt_zero j)) h0 h1).mono ?_
  rintro e W' ⟨hpe, T, hT, hu2⟩
  have hu3 : Upd [] w W' := hu.trans' hu2 (fun q hq hl => by rcases hT q hq with h | h <;> omega)
  rw [newFr_s, hfw] at hpe
  obtain ⟨_, rfl, ⟨lv', v', h3⟩, h4⟩ := hpe.resolve_right (fun h => by have := h.1; omega)
  have e1 : 4 * (((fs ++ [sF []]).length : Nat) : Int) = 4 * (fs.length : Int) + 4 := by simp; omega
  exact ⟨rfl, ⟨lv', vs ++ [v'], by rw [e1]; exact h3⟩, by rw [e1]; exact h4, hu3⟩
theorem klay {gs : List Fr} {st : List Slt} {x : Slt} (h : SkAt w W0 W ib ss cv mv (gs ++ [sF st]) nn) (hs : st.length < 12) (hx : x.ref = true → 0 ≤ x.n) (hib : w.heap.size ≤ W0.heap.size) :
    Calls Tryd.prog 19 #[.pointer (some ⟨W0.heap.size, 0, none⟩), .agg #[.bool x.ref, .int .i64 x.n]] W fun e W' => e = .returned (.bool true) ∧ SkAt w W0 W' ib ss cv mv (gs ++ [sF (st ++ [x])]) nn := by
  obtain ⟨⟨lv, vs, hst⟩, hok, hu⟩ := h
  obtain ⟨vs', v, rfl⟩ := vs_split hst.frs
  refine (slay_any W0 W W0.heap.size ib sP ss 0 nn cv mv 100 _ lv gs vs' (sF st) v x hst hs hx).mono ?_
  rintro e W' ⟨rfl, sv', h3, T, hT, hu2⟩
  have e1 : (gs ++ [sF (st ++ [x])]).length = (gs ++ [sF st]).length := by simp
  exact ⟨rfl, ⟨lv, _, by rw [e1]; exact h3⟩, by rw [e1]; exact hok.turn rfl, hu.trans' hu2 (fun q hq hl => by have := hT q hq; omega)⟩
theorem klayFull {gs : List Fr} {st : List Slt} {x : Slt} (h : SkAt w W0 W ib ss cv mv (gs ++ [sF st]) nn) (hs : 12 ≤ st.length) :
    Calls Tryd.prog 19 #[.pointer (some ⟨W0.heap.size, 0, none⟩), .agg #[.bool x.ref, .int .i64 x.n]] W fun e W' => e = .returned (.bool false) ∧ SkAt w W0 W' ib ss cv mv (gs ++ [sF st]) nn := by
  have h2 := h
  obtain ⟨⟨lv, vs, hst⟩, hok, hu⟩ := h
  obtain ⟨vs', v, rfl⟩ := vs_split hst.frs
  refine (slay_full W0 W W0.heap.size ib sP ss 0 nn cv mv 100 _ lv gs vs' (sF st) v x hst hs).mono ?_
  rintro e W' ⟨rfl, hu2⟩
  exact ⟨rfl, h2.same hu2⟩
theorem ktake {gs : List Fr} {ys : List Slt} {x : Slt} (h : SkAt w W0 W ib ss cv mv (gs ++ [sF (ys ++ [x])]) nn) (hy : ys.length ≤ 100) (hib : w.heap.size ≤ W0.heap.size) :
    Calls Tryd.prog 20 #[.pointer (some ⟨W0.heap.size, 0, none⟩)] W fun e W' => e = .returned (.tuple #[.agg #[.bool x.ref, .int .i64 x.n], .bool true]) ∧ SkAt w W0 W' ib ss cv mv (gs ++ [sF ys]) nn := by
  obtain ⟨⟨lv, vs, hst⟩, hok, hu⟩ := h
  obtain ⟨vs', v, rfl⟩ := vs_split hst.frs
  refine (stake_any W0 W W0.heap.size ib sP ss 0 nn cv mv 100 _ lv gs vs' (sF (ys ++ [x])) v ys x hst rfl (by omega)).mono ?_
  rintro e W' ⟨rfl, sv', g, h3, hg, hu2⟩
  have e1 : (gs ++ [sF ys]).length = (gs ++ [sF (ys ++ [x])]).length := by simp
  exact ⟨rfl, ⟨lv, _, by rw [e1]; exact h3⟩, by rw [e1]; exact hok.turn rfl, hu.trans' hu2 (fun q hq hl => by rw [List.mem_singleton] at hq; omega)⟩
theorem ktakeE {gs : List Fr} (h : SkAt w W0 W ib ss cv mv (gs ++ [sF []]) nn) :
    Calls Tryd.prog 20 #[.pointer (some ⟨W0.heap.size, 0, none⟩)] W fun e W' => e = .returned (.tuple #[.agg #[.bool false, .int .i64 0], .bool false]) ∧ SkAt w W0 W' ib ss cv mv (gs ++ [sF []]) nn := by
  have h2 := h
  obtain ⟨⟨lv, vs, hst⟩, hok, hu⟩ := h
  obtain ⟨vs', v, rfl⟩ := vs_split hst.frs
  refine (stake_empty W0 W W0.heap.size ib sP ss 0 nn cv mv 100 _ lv gs vs' (sF []) v hst rfl).mono ?_
  rintro e W' ⟨rfl, hu2⟩
  exact ⟨rfl, h2.same hu2⟩
theorem kpop {gs : List Fr} {st : List Slt} (h : SkAt w W0 W ib ss cv mv (gs ++ [sF st]) nn) (hlk : lookM sP sm0 = .ok (ss.getD 0 default)) (hib : w.heap.size ≤ ib ∧ w.heap.size ≤ W0.heap.size) (h0 : 0 ≤ nn) (h1 : nn ≤ 900000000) :
    Calls Tryd.prog 22 #[.pointer (some ⟨W0.heap.size, 0, none⟩)] W fun e W' => e = .returned (.bool true) ∧ SkAt w W0 W' ib ss cv mv gs (nn + 1) := by
  obtain ⟨⟨lv, vs, hst⟩, hok, hu⟩ := h
  obtain ⟨vs', v, rfl⟩ := vs_split hst.frs
  have hfw := sP_words ss hlk
  refine (spop_any W0 W W0.heap.size ib sP ss 0 nn cv mv 100 _ lv gs vs' (sF st) v hst hok h0 h1).mono ?_
  rintro e W' ⟨rfl, ⟨lv', h3⟩, h4, hu2⟩
  have hm : (sF st).m = 0 := rfl
  have e1 : 4 * (((gs ++ [sF st]).length : Nat) : Int) - 4 = 4 * (gs.length : Int) := by simp; omega
  rw [hm, hfw, e1] at h3 h4
  exact ⟨rfl, ⟨lv', vs', h3⟩, h4, hu.trans' hu2 (fun q hq hl => by simp at hq; rcases hq with rfl | rfl <;> omega)⟩
theorem kat {st : List Slt} {g : Fr} (h : SkAt w W0 W ib ss cv mv [sF st, g] nn) (hs : st.length ≤ 100) :
    Calls Tryd.prog 21 #[.pointer (some ⟨W0.heap.size, 0, none⟩), .int .i64 0] W fun e W' => ∃ p1 n1 c1 u2, e = .returned (.tuple #[.int .i64 0, .int .i64 0, .slice p1 n1 c1, u2, .bool true]) ∧ OwnSl W' W.heap.size u2 st ∧ Upd [] W W' := by
  obtain ⟨⟨lv, vs, hst⟩, hok, hu⟩ := h
  refine (sat_any (W0 := W0) (w := W) (sb := W0.heap.size) (ib := ib) (p := sP) (ss := ss) (n0 := 0) (n := nn) (cv := cv) (mv := mv) (limit := 100) (lv := lv) [sF st, g] vs 0 hst (by simp) (Nat.zero_le _) (show st.length ≤ 1000 by omega)).mono ?_
  rintro e W' ⟨u1, u2, rfl, h1, h2, hu2⟩
  obtain ⟨p1, c1, rfl⟩ := h1.shape
  exact ⟨p1, _, c1, u2, rfl, h2, hu2⟩
end
theorem slcells_setN : ∀ (xs : List Slt) (k : Nat) (x : Int), k < xs.length → slcells (xs.set k ⟨(xs.getD k default).ref, x⟩) = (slcells xs).set (k * 2 + 1) (.int .i64 x)
  | [], k, _, h => by simp at h
  | ⟨r, n⟩ :: xs, 0, x, _ => rfl
  | y :: xs, k + 1, x, h => by
    have ih := slcells_setN xs k x (by simpa using h)
    have e : (k + 1) * 2 + 1 = k * 2 + 1 + 1 + 1 := by omega
    have e2 : (y :: xs).getD (k + 1) default = xs.getD k default := rfl
    rw [e, e2, List.set_cons_succ]
    simp only [slcells, List.set_cons_succ]
    rw [ih]
theorem OwnSl.setN {w : World} {B q c : Nat} {xs : List Slt} (h : OwnSl w B (.slice (some ⟨q, 0, none⟩) xs.length c) xs) (k : Nat) (x : Int) (hk : k < xs.length) : OwnSl (w.setCell ⟨q, k * 2 + 1, none⟩ (.int .i64 x)) B (.slice (some ⟨q, 0, none⟩) xs.length c) (xs.set k ⟨(xs.getD k default).ref, x⟩) := by
  unfold OwnSl
  rw [List.length_set, slcells_setN xs k x hk]
  exact ownsRow_set h _ _
end Go.Proofs.YtpmfbhoochogoaaDoor
