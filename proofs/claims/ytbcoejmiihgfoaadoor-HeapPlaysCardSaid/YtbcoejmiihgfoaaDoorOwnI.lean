/- overdriveref.Sorted: what it computes; its walk. A builtin append onto a row of one's own, as one step of a region that draws its order. No program in sight. A row of integers of one's own; cuts of rows. -/
import Derived.Test.YtbcoejmiihgfoaaDoorInts
import Derived.Deep.RegionLaw
import Derived.Maps.AppendAt
import Derived.Deep.AppendSrc
import Derived.Test.YtbcoejmiihgfoaaDoorLib
import Derived.Deep.DeepCutAuto
import Derived.Deep.CutBlock
import Derived.Deep.QuietTactic
import Derived.BigQuiet
/-! overdriveref.Sorted: what it computes; its walk. -/
namespace Go.Proofs.YtbcoejmiihgfoaaDoor
open Go.RowKit

/-- How many at the front are less. -/
def lessN (out : List Int) (x : Int) : Nat := (out.takeWhile fun y => decide (y < x)).length
/-- A number is laid into a rising list. -/
def insL (out : List Int) (x : Int) : List Int := if out[lessN out x]? = some x then out else out.take (lessN out x) ++ [x] ++ out.drop (lessN out x)
def sortL (l : List Int) : List Int := l.foldl insL []

theorem lessN_le (out : List Int) (x : Int) : lessN out x ≤ out.length := by
 unfold lessN
 induction out with
 | nil => simp
 | cons a t ih => rw [List.takeWhile_cons]; split <;> simp; omega

theorem lessN_lt (out : List Int) (x : Int) (k : Nat) (h : k < lessN out x) : out.getD k 0 < x := by
 unfold lessN at h
 induction out generalizing k with
 | nil => simp at h
 | cons a t ih =>
  rw [List.takeWhile_cons] at h
  split at h
  ·rename_i ha
   cases k with
   | zero => simpa using ha
   | succ k => simp at h ⊢; simpa using ih k h
  ·simp at h

theorem lessN_at (out : List Int) (x : Int) (h : lessN out x < out.length) : x ≤ out.getD (lessN out x) 0 := by
 unfold lessN at h ⊢
 induction out with
 | nil => simp at h
 | cons a t ih =>
  rw [List.takeWhile_cons] at h ⊢
  split at h
  ·rename_i ha
   rw [if_pos ha]
   simp at h ⊢
   simpa using ih h
  ·rename_i ha
   rw [if_neg ha]
   simp at ha ⊢
   exact ha

theorem sortL_take (l : List Int) (k : Nat) (h : k < l.length) : sortL (l.take (k + 1)) = insL (sortL (l.take k)) (l.getD k 0) := by
 have : l.take (k + 1) = l.take k ++ [l.getD k 0] := by
  rw [List.take_add_one, List.getElem?_eq_getElem h, List.getD_eq_getElem?_getD, List.getElem?_eq_getElem h]; rfl
 rw [this]
 simp [sortL]

theorem insL_len (out : List Int) (x : Int) : (insL out x).length ≤ out.length + 1 := by
 unfold insL
 have := lessN_le out x
 split
 ·omega
 ·simp; omega

theorem sortL_len (l : List Int) : (sortL l).length ≤ l.length := by
 have h : ∀ (l out : List Int), (l.foldl insL out).length ≤ out.length + l.length := by
  intro l
  induction l with
  | nil => intro out; simp
  | cons a t ih => intro out; rw [List.foldl_cons]; have h1 := ih (insL out a); have h2 := insL_len out a; simp; omega
 simpa [sortL] using h l []

theorem sorted_eq : ∀ (a b : List Int), a.Pairwise (· < ·) → b.Pairwise (· < ·) → (∀ x, x ∈ a ↔ x ∈ b) → a = b := by
 intro a
 induction a with
 | nil =>
  intro b _ _ h
  cases b with
  | nil => rfl
  | cons y u => have := (h y).2 (by simp); simp at this
 | cons x t ih =>
  intro b ha hb h
  cases b with
  | nil => have := (h x).1 (by simp); simp at this
  | cons y u =>
   rw [List.pairwise_cons] at ha hb
   have hxy : x = y := by
    have h1 := (h x).1 (by simp)
    have h2 := (h y).2 (by simp)
    rcases List.mem_cons.1 h1 with h1 | h1
    ·exact h1
    ·rcases List.mem_cons.1 h2 with h2 | h2
     ·exact h2.symm
     ·have := ha.1 y h2
      have := hb.1 x h1
      omega
   subst hxy
   rw [ih u ha.2 hb.2 (fun z => by
    have h1 := h z
    simp only [List.mem_cons] at h1
    constructor
    ·intro hz
     rcases h1.1 (.inr hz) with h2 | h2
     ·have := ha.1 z hz; omega
     ·exact h2
    ·intro hz
     rcases h1.2 (.inr hz) with h2 | h2
     ·have := hb.1 z hz; omega
     ·exact h2)]
theorem insL_spec (out : List Int) (x : Int) (h : out.Pairwise (· < ·)) : (insL out x).Pairwise (· < ·) ∧ ∀ y, y ∈ insL out x ↔ y ∈ out ∨ y = x := by
 unfold insL
 split
 ·rename_i he
  refine ⟨h, fun y => ⟨.inl, ?_⟩⟩
  rintro (h1 | rfl)
  ·exact h1
  ·obtain ⟨h1, h2⟩ := List.getElem?_eq_some_iff.1 he
   exact h2 ▸ List.getElem_mem h1
 ·rename_i he
  have hle := lessN_le out x
  have hlo : ∀ a ∈ out.take (lessN out x), a < x := fun a ha => by
   obtain ⟨q, hq, rfl⟩ := List.getElem_of_mem ha
   rw [List.length_take] at hq
   have := lessN_lt out x q (by omega)
   rw [List.getD_eq_getElem?_getD, List.getElem?_eq_getElem (show q < out.length by omega)] at this
   rw [List.getElem_take]
   exact this
  have hhi : ∀ b ∈ out.drop (lessN out x), x < b := fun b hb => by
   obtain ⟨d, hd, rfl⟩ := List.getElem_of_mem hb
   simp at hd
   have hql : lessN out x < out.length := by omega
   have h1 := lessN_at out x hql
   rw [List.getD_eq_getElem?_getD, List.getElem?_eq_getElem hql] at h1
   have h2 : out[lessN out x] ≠ x := fun e => he (by rw [List.getElem?_eq_getElem hql, e])
   have h1' : x ≤ out[lessN out x] := h1
   rw [List.getElem_drop]
   by_cases hd0 : d = 0
   ·subst hd0
    simp only [Nat.add_zero]
    omega
   ·have := (List.pairwise_iff_getElem.1 h) (lessN out x) (lessN out x + d) hql (by omega) (by omega)
    omega
  refine ⟨?_, fun y => ?_⟩
  ·rw [List.append_assoc, List.pairwise_append]
   have hsplit : (out.take (lessN out x) ++ out.drop (lessN out x)).Pairwise (· < ·) := by rwa [List.take_append_drop]
   rw [List.pairwise_append] at hsplit
   refine ⟨hsplit.1, ?_, ?_⟩
   ·rw [List.singleton_append, List.pairwise_cons]
    exact ⟨hhi, hsplit.2.1⟩
   ·intro a ha b hb
    rcases List.mem_append.1 hb with hb | hb
    ·simp at hb; subst hb; exact hlo a ha
    ·exact hsplit.2.2 a ha b hb
  ·have : y ∈ out ↔ y ∈ out.take (lessN out x) ∨ y ∈ out.drop (lessN out x) := by
    conv => lhs; rw [← List.take_append_drop (lessN out x) out]
    exact List.mem_append
   rw [this]
   simp only [List.mem_append, List.mem_singleton]
   constructor
   ·rintro ((h1 | h1) | h1)
    ·exact .inl (.inl h1)
    ·exact .inr h1
    ·exact .inl (.inr h1)
   ·rintro ((h1 | h1) | h1)
    ·exact .inl (.inl h1)
    ·exact .inr h1
    ·exact .inl (.inr h1)

theorem sortL_spec (l : List Int) : (sortL l).Pairwise (· < ·) ∧ ∀ y, y ∈ sortL l ↔ y ∈ l := by
 have key : ∀ (l out : List Int), out.Pairwise (· < ·) → (l.foldl insL out).Pairwise (· < ·) ∧ ∀ y, y ∈ l.foldl insL out ↔ y ∈ out ∨ y ∈ l := by
  intro l
  induction l with
  | nil => intro out h; exact ⟨h, fun y => by simp⟩
  | cons a t ih =>
   intro out h
   obtain ⟨h1, h2⟩ := insL_spec out a h
   obtain ⟨h3, h4⟩ := ih _ h1
   refine ⟨h3, fun y => ?_⟩
   rw [List.foldl_cons, h4, h2]
   simp only [List.mem_cons]
   constructor
   ·rintro ((h5 | h5) | h5)
    ·exact .inl h5
    ·exact .inr (.inl h5)
    ·exact .inr (.inr h5)
   ·rintro (h5 | h5 | h5)
    ·exact .inl (.inl h5)
    ·exact .inl (.inr h5)
    ·exact .inr h5
 have := key l [] List.Pairwise.nil
 refine ⟨this.1, fun y => ?_⟩
 have h := this.2 y
 simpa [sortL] using h
end Go.Proofs.YtbcoejmiihgfoaaDoor

/-! A builtin append onto a row of one's own, as one step of a region that draws its order. No program in sight. -/
namespace Go.Proofs.YtbcoejmiihgfoaaDoor
open Go.RowKit

theorem step_append_own_at {P : Program} {ops : Array Oper} {o : Oper} {a : Act} {w : World} {K : Act → World → Prop} {Q : Exit → Act → World → Prop} {E : Prop}
  (hg : o.guard = none) (s x : Operand) (t : TypeId) (hop : o.op = Op.call { callee := Callee.builtin Builtin.append, args := #[s, x], argTypes := #[t, t] })
  (base : Nat) (e : TypeId) (i : TypeInfo) (z : Value) (size bytes : Nat) (ht : P.underlying t = some (.slice e)) (hi : P.info? e = some i) (hz : i.zero = some z)
  (hsize : i.size = size) (hby : i.bytes = bytes) (hzs : z.cells.size = size) (hsz : 0 < size)
  (v : Value) (n : Nat) (xs : List Value) (hs : a.eval s = v) (hown : w.ownsRow base e size v n xs)
  (ad : Addr) (m c : Nat) (news : List Value) (hx : a.eval x = .slice (some ad) m c) (hl : news.length = m * size) (hnews : ∀ j u, news[j]? = some u → w.cell? (ad.add j) = some u) (h1 : ∀ u ∈ news, u.oneCell' = true)
  (h63 : n + m ≤ maxLen) (hbytes : (n + m) * bytes ≤ 140737488355328) (hbase : base ≤ w.heap.size)
  (hK : ∀ v' w', w'.ownsRow base e size v' (n + m) (xs ++ news) → w.grownBy w' v.ownBlock → (v'.ownBlock = v.ownBlock ∨ v'.ownBlock = some w.heap.size) → K (a.put o.dst v') w') :
  if Region.wanted o (yielded ops a.tmps) = true then Oper.wp P o a w K Q else E := by
 have hw : Region.wanted o (yielded ops a.tmps) = true := by simp [Region.wanted, hg]
 rw [if_pos hw]
 obtain ⟨v', w', hr, h2, h3, h4, h5⟩ := run_append_own_at (P := P) w base t o.type e i z size bytes ht hi hz hsize hby hzs hsz v n xs hown ad m c news hl hnews h1 h63 hbytes hbase
 unfold Oper.wp
 simp [execOp, hop, resolve, invoke, builtin, hs, hx, hr, Result.andThen]
 exact hK v' w' h2 h3 h5

/-- What is appended: cells behind an address, or nothing. -/
def SrcV (w : World) (x : Value) (m : Nat) (news : List Value) : Prop :=
 (∃ c, x = .slice none 0 c ∧ m = 0 ∧ news = []) ∨ ∃ ad c, x = .slice (some ad) m c ∧ ∀ j u, news[j]? = some u → w.cell? (ad.add j) = some u

theorem run_append_own_src {P : Program} (w : World) (base : Nat) (t ty e : TypeId) (i : TypeInfo) (z : Value) (size bytes : Nat) (ht : P.underlying t = some (.slice e)) (hi : P.info? e = some i) (hz : i.zero = some z)
  (hsize : i.size = size) (hby : i.bytes = bytes) (hzs : z.cells.size = size) (hsz : 0 < size)
  (v : Value) (n : Nat) (xs : List Value) (hown : w.ownsRow base e size v n xs)
  (x : Value) (m : Nat) (news : List Value) (hx : SrcV w x m news) (hl : news.length = m * size) (h1 : ∀ u ∈ news, u.oneCell' = true)
  (h63 : n + m ≤ maxLen) (hbytes : (n + m) * bytes ≤ 140737488355328) (hbase : base ≤ w.heap.size) :
  ∃ v' w', (Builtin.append_ #[t, t] ty #[v, x]).run P w = .ok v' w' ∧ w'.ownsRow base e size v' (n + m) (xs ++ news) ∧ w.grownBy w' v.ownBlock ∧ (v'.ownBlock = v.ownBlock ∨ v'.ownBlock = some w.heap.size) := by
 rcases hx with ⟨c, rfl, rfl, rfl⟩ | ⟨ad, c, rfl, hc⟩
 ·subst hsize
  refine ⟨v, w, ?_, by simpa using hown, ⟨rfl, rfl, rfl, Nat.le_refl _, fun _ _ _ => rfl⟩, .inl rfl⟩
  rcases hown.2 with ⟨rfl, rfl⟩ | ⟨g, cap, cur, rfl, hbg, hg, hnc, hcm, hcs, htake⟩
  ·simp [Builtin.append_, run_underlying ht, sizeOf, typeInfo, hi, Builtin.lenOf, Builtin.firstCells]
  ·have h := run_append_room_src (P := P) w t t ty e i ht hi g 0 n cap _ 0 [] (Src.ofNil w (size := i.size) ht c) (by omega) (by simp) (by simp)
   rw [h]
   simp [World.setCells]
 ·obtain ⟨v', w', hr, h2, h3, _, h5⟩ := run_append_own_at (P := P) w base t ty e i z size bytes ht hi hz hsize hby hzs hsz v n xs hown ad m c news hl hc h1 h63 hbytes hbase
  exact ⟨v', w', hr, h2, h3, h5⟩

theorem step_append_src {P : Program} {ops : Array Oper} {o : Oper} {a : Act} {w : World} {K : Act → World → Prop} {Q : Exit → Act → World → Prop} {E : Prop}
  (hg : o.guard = none) (s x : Operand) (t : TypeId) (hop : o.op = Op.call { callee := Callee.builtin Builtin.append, args := #[s, x], argTypes := #[t, t] })
  (base : Nat) (e : TypeId) (i : TypeInfo) (z : Value) (size bytes : Nat) (ht : P.underlying t = some (.slice e)) (hi : P.info? e = some i) (hz : i.zero = some z)
  (hsize : i.size = size) (hby : i.bytes = bytes) (hzs : z.cells.size = size) (hsz : 0 < size)
  (v : Value) (n : Nat) (xs : List Value) (hs : a.eval s = v) (hown : w.ownsRow base e size v n xs)
  (xv : Value) (m : Nat) (news : List Value) (hx : a.eval x = xv) (hsrc : SrcV w xv m news) (hl : news.length = m * size) (h1 : ∀ u ∈ news, u.oneCell' = true)
  (h63 : n + m ≤ maxLen) (hbytes : (n + m) * bytes ≤ 140737488355328) (hbase : base ≤ w.heap.size)
  (hK : ∀ v' w', w'.ownsRow base e size v' (n + m) (xs ++ news) → w.grownBy w' v.ownBlock → (v'.ownBlock = v.ownBlock ∨ v'.ownBlock = some w.heap.size) → K (a.put o.dst v') w') :
  if Region.wanted o (yielded ops a.tmps) = true then Oper.wp P o a w K Q else E := by
 have hw : Region.wanted o (yielded ops a.tmps) = true := by simp [Region.wanted, hg]
 rw [if_pos hw]
 obtain ⟨v', w', hr, h2, h3, h5⟩ := run_append_own_src (P := P) w base t o.type e i z size bytes ht hi hz hsize hby hzs hsz v n xs hown xv m news hsrc hl h1 h63 hbytes hbase
 unfold Oper.wp
 simp [execOp, hop, resolve, invoke, builtin, hs, hx, hr, Result.andThen]
 exact hK v' w' h2 h3 h5

theorem wpList_append_src {P : Program} {ops : Array Oper} {rest : List Oper} {o : Oper} {a : Act} {w : World} {Q : Exit → Act → World → Prop} (hgd : o.guard = none) (s x : Operand) (t : TypeId)
  (ho : o.op = .call { callee := .builtin .append, args := #[s, x], argTypes := #[t, t] })
  (base : Nat) (e : TypeId) (i : TypeInfo) (z : Value) (size bytes : Nat) (ht : P.underlying t = some (.slice e)) (hi : P.info? e = some i) (hz : i.zero = some z)
  (hsize : i.size = size) (hby : i.bytes = bytes) (hzs : z.cells.size = size) (hsz : 0 < size)
  (v : Value) (n : Nat) (xs : List Value) (hs : a.eval s = v) (hown : w.ownsRow base e size v n xs)
  (xv : Value) (m : Nat) (news : List Value) (hx : a.eval x = xv) (hsrc : SrcV w xv m news) (hl : news.length = m * size) (h1 : ∀ u ∈ news, u.oneCell' = true)
  (h63 : n + m ≤ maxLen) (hbytes : (n + m) * bytes ≤ 140737488355328) (hbase : base ≤ w.heap.size)
  (h : ∀ v' w', w'.ownsRow base e size v' (n + m) (xs ++ news) → w.grownBy w' v.ownBlock → (v'.ownBlock = v.ownBlock ∨ v'.ownBlock = some w.heap.size) → wpList P ops Q rest (a.put o.dst v') w') :
  wpList P ops Q (o :: rest) a w := by
 refine wpList_plain hgd fun K hK => ?_
 obtain ⟨v', w', hr, h2, h3, h5⟩ := run_append_own_src (P := P) w base t o.type e i z size bytes ht hi hz hsize hby hzs hsz v n xs hown xv m news hsrc hl h1 h63 hbytes hbase
 unfold Oper.wp execOp
 simp only [ho, resolve, invoke, builtin, Sem.run_bind, Sem.run_pure, Result.andThen_ok, List.map_toArray, List.map_cons, List.map_nil, hs, hx, hr]
 exact hK _ _ (h v' w' h2 h3 h5)

end Go.Proofs.YtbcoejmiihgfoaaDoor

/-! A row of integers of one's own; cuts of rows. -/
namespace Go.Proofs.YtbcoejmiihgfoaaDoor
open Go.RowKit

/-- A row of integers of one's own. -/
def OwnI (w : World) (base : Nat) (e : TypeId) (v : Value) (xs : List Int) : Prop := w.ownsRow base e 1 v xs.length (xs.map (Value.int .i64))

theorem OwnI.form {w : World} {base : Nat} {e : TypeId} {v : Value} {xs : List Int} (h : OwnI w base e v xs) : (v = .slice none 0 0 ∧ xs = []) ∨ ∃ g c, v = .slice (some ⟨g, 0, none⟩) xs.length c ∧ xs.length ≤ c ∧ base ≤ g ∧ g < w.heap.size ∧ ∀ i, i < xs.length → w.cell? ⟨g, i, none⟩ = some (.int .i64 (xs.getD i 0)) := by
 rcases h.2 with ⟨h1, h2⟩ | ⟨g, c, cur, h1, hb, hg, hc, _⟩
 ·exact .inl ⟨h1, List.eq_nil_of_length_eq_zero h2⟩
 ·refine .inr ⟨g, c, h1, hc, hb, lt_of_heap hg, fun i hi => ?_⟩
  have h3 := h.cells (g := g) (by rw [h1]; rfl) i (.int .i64 (xs.getD i 0)) (by
   rw [List.getElem?_map, List.getElem?_eq_getElem hi, List.getD_eq_getElem?_getD, List.getElem?_eq_getElem hi]; rfl)
  rwa [Addr.add_lit, Nat.zero_add] at h3
theorem OwnI.ints {w : World} {base : Nat} {e : TypeId} {v : Value} {xs : List Int} (h : OwnI w base e v xs) : ∃ b, IntsV w v b xs ∧ (xs = [] ∨ base ≤ b ∧ b < w.heap.size) := by
 rcases h.form with ⟨h1, h2⟩ | ⟨g, c, h1, h2, h3, h4, h5⟩
 ·exact ⟨0, ⟨.inl ⟨h1, h2⟩, by rw [h2]; simp⟩, .inl h2⟩
 ·exact ⟨g, ⟨.inr ⟨c, h1⟩, h5⟩, .inr ⟨h3, h4⟩⟩
theorem OwnI.upd {w w' : World} {base : Nat} {e : TypeId} {v : Value} {xs : List Int} {T : List Nat} (h : OwnI w base e v xs) (hu : Upd T w w') (hT : ∀ k, v.ownBlock = some k → k ∉ T) : OwnI w' base e v xs := row_upd h hu hT
theorem OwnI.nil (w : World) (base : Nat) (e : TypeId) : OwnI w base e (.slice none 0 0) [] := World.ownsRow_nil _ _ _ _

theorem cut_hi (w : World) (g len c q : Nat) (h : q ≤ c) : (Instr.slice 29 (.slice (some ⟨g, 0, none⟩) len c) none (some (.int .i64 (q : Int))) none).run Tryd.prog w = .ok (.slice (some ⟨g, 0, none⟩) q c) w := by
 have hsz : (sizeOf 3).run Tryd.prog w = .ok 1 w := by kernel_rfl
 have he : Tryd.prog.elem 29 = 3 := by kernel_rfl
 rw [run_slice_h w 29 _ _ _ (by rw [he]; exact Tryd.underlying29) .i64 (q : Int) (by omega) (by omega), he, hsz]
 simp [Result.andThen, sliced, Addr.add]
theorem cut_lo (w : World) (g len c q : Nat) (h : q ≤ len) : (Instr.slice 29 (.slice (some ⟨g, 0, none⟩) len c) (some (.int .i64 (q : Int))) none none).run Tryd.prog w = .ok (.slice (some ⟨g, if c = q then 0 else q, none⟩) (len - q) (c - q)) w := by
 have hsz : (sizeOf 3).run Tryd.prog w = .ok 1 w := by kernel_rfl
 have he : Tryd.prog.elem 29 = 3 := by kernel_rfl
 rw [run_slice_l w 29 _ _ _ (by rw [he]; exact Tryd.underlying29) .i64 (q : Int) (by omega) (by omega), he, hsz]
 simp only [Result.andThen, sliced, Int.toNat_natCast, Nat.mul_one, Option.map_some]
 split
 ·rfl
 ·simp [Addr.add]
  omega
theorem cut_nil (w : World) : (Instr.slice 29 (.slice none 0 0) none (some (.int .i64 0)) none).run Tryd.prog w = .ok (.slice none 0 0) w := by kernel_rfl
theorem cut_nil2 (w : World) : (Instr.slice 29 (.slice none 0 0) (some (.int .i64 0)) none none).run Tryd.prog w = .ok (.slice none 0 0) w := by kernel_rfl

theorem make_ints (w : World) (m : Nat) (mi : Int) (hmi : mi = m) (h : m ≤ 1000000) : (Instr.makeSlice 29 (.int .i64 0) (.int .i64 mi)).run Tryd.prog w = .ok (.slice (some ⟨w.heap.size, 0, none⟩) 0 m) (w.alloc (.cells (icells (List.replicate m 0)) 3)) := by
 subst hmi
 obtain ⟨i0, hi, hz0, hz1, hz2⟩ := info_parts Tryd.infoInt
 have hmk := run_make (P := Tryd.prog) w 29 3 i0 (.int .i64 0) Tryd.underlying29 hi hz0 .i64 .i64 0 (m : Int) (by omega) (by omega) (by rw [hz2]; omega) (by omega)
 rw [hz1, Nat.mul_one] at hmk
 simpa [madeCells_zero] using hmk

theorem row_base {w : World} {base base' : Nat} {e : TypeId} {size : Nat} {v : Value} {n : Nat} {xs : List Value} (h : w.ownsRow base e size v n xs) (hb : base' ≤ base) : w.ownsRow base' e size v n xs := by
 refine ⟨h.1, ?_⟩
 rcases h.2 with hn | ⟨g, cap, cur, hv, hbg, rest⟩
 ·exact .inl hn
 ·exact .inr ⟨g, cap, cur, hv, Nat.le_trans hb hbg, rest⟩

theorem made_row (w : World) (base m : Nat) (hb : base ≤ w.heap.size) (hm : m ≤ 1000000) : (w.alloc (.cells (icells (List.replicate m 0)) 3)).ownsRow base 3 1 (.slice (some ⟨w.heap.size, 0, none⟩) 0 m) 0 [] :=
 World.ownsRow_made w _ m hb (by unfold maxLen; omega) (by simp [icells])

/-- What is appended, out of a row that is only read. -/
theorem src_row {w : World} {g : Nat} {xs : List Int} (h : ∀ i, i < xs.length → w.cell? ⟨g, i, none⟩ = some (.int .i64 (xs.getD i 0))) (o m c : Nat) (hm : o + m ≤ xs.length) (off : Nat) (hoff : off = o ∨ m = 0) :
  SrcV w (.slice (some ⟨g, off, none⟩) m c) m (((xs.drop o).take m).map (Value.int .i64)) := by
 refine .inr ⟨_, c, rfl, fun j u hj => ?_⟩
 have hjl : j < m := by
  have := (List.getElem?_eq_some_iff.1 hj).1
  simp at this; omega
 have hoff' : off = o := by omega
 subst hoff'
 rw [List.getElem?_map, List.getElem?_take, if_pos hjl, List.getElem?_drop] at hj
 rw [Addr.add_lit, h (off + j) (by omega), List.getD_eq_getElem?_getD]
 rw [List.getElem?_eq_getElem (by omega)] at hj ⊢
 simpa using hj

theorem oneI (xs : List Int) : ∀ u ∈ xs.map (Value.int .i64), u.oneCell' = true := by
 intro u hu
 obtain ⟨_, _, rfl⟩ := List.mem_map.1 hu
 rfl

/-- The two parts of a row at q, as they are appended. -/
theorem parts {w : World} {base : Nat} {po : Option Addr} {co : Nat} {out : List Int} (h : OwnI w base 3 (.slice po out.length co) out) (q : Nat) (hq : q ≤ out.length) :
  ∃ po2 co2, (∀ w, (Instr.slice 29 (.slice po out.length co) none (some (.int .i64 (q : Int))) none).run Tryd.prog w = .ok (.slice po q co) w) ∧
   (∀ w, (Instr.slice 29 (.slice po out.length co) (some (.int .i64 (q : Int))) none none).run Tryd.prog w = .ok (.slice po2 (out.length - q) co2) w) ∧
   (∀ w', Upd [] w w' → SrcV w' (.slice po q co) q ((out.take q).map (Value.int .i64))) ∧ (∀ w', Upd [] w w' → SrcV w' (.slice po2 (out.length - q) co2) (out.length - q) ((out.drop q).map (Value.int .i64))) := by
 rcases h.form with ⟨h1, rfl⟩ | ⟨g, c, h1, h2, h3, h4, h5⟩
 ·obtain rfl : q = 0 := by simpa using hq
  injection h1 with e1 e2 e3
  subst e1 e3
  exact ⟨none, 0, fun w => cut_nil w, fun w => cut_nil2 w, fun _ _ => .inl ⟨0, rfl, rfl, rfl⟩, fun _ _ => .inl ⟨0, rfl, rfl, rfl⟩⟩
 ·injection h1 with e1 e2 e3
  subst e1 e3
  refine ⟨_, _, fun w => cut_hi w g out.length co q (by omega), fun w => cut_lo w g out.length co q hq, fun w' hu => ?_, fun w' hu => ?_⟩
  ·have := src_row (w := w') (g := g) (xs := out) (fun i hi => hu.cell (h5 i hi) (by simp)) 0 q co (by omega) 0 (.inl rfl)
   simpa using this
  ·have := src_row (w := w') (g := g) (xs := out) (fun i hi => hu.cell (h5 i hi) (by simp)) q (out.length - q) (co - q) (by omega) (if co = q then 0 else q) (by
    split
    ·right; omega
    ·left; rfl)
   rwa [List.take_of_length_le (by simp)] at this
end Go.Proofs.YtbcoejmiihgfoaaDoor
