/- A stack of frames in memory (chapter 13). frames.New, Stack.Len, Words, top. A stack of frames: words asked for, Pop. Rows of slots: read, cloned. A stack of frames: Top, Local. A stack of frames: At. A stack of frames: the frame on top is turned. A stack of frames: a value is laid on the frame on top. A stack of frames: Lay. -/
import Derived.Test.YtopojeanbpokaaaGreatDoorIProg
import Derived.Test.YtopojeanbpokaaaGreatDoorRows
import Derived.RegionCalls
import Derived.Lib.TrailingZeros
import Derived.Shelf.Spec.TrailingZeros
import Derived.RangeFuncBox
import Derived.RangeFuncLeaves
import Derived.Shelf.Abstract
import Derived.OwnWalkIn
import Derived.TacticsInMore
import Derived.LoopNIn
import Derived.LoopIn
import Derived.RangeFuncNested
import Derived.Defers
import Derived.ChangeAlike
import Derived.Test.YtopojeanbpokaaaGreatDoorOwnNe
import Derived.Test.YtopojeanbpokaaaGreatDoorAtW
import Derived.Test.YtopojeanbpokaaaGreatDoorRefsW
import Derived.Deep.RegionHeld3
/-! A stack of frames in memory (chapter 13). frames.New, Stack.Len, Words, top. -/
/-! A stack of frames in memory. frames.New, Stack.Len, Words, top. -/
namespace Go.Proofs.YtopojeanbpokaaaGreatDoor
open Go.RowKit

/-- A slot. -/
structure Slt where
  ref : Bool
  n : Int
deriving Inhabited, DecidableEq
def slcells : List Slt → List Value
  | x :: xs => .bool x.ref :: .int .i64 x.n :: slcells xs
  | [] => []
theorem slcells_len : ∀ xs : List Slt, (slcells xs).length = xs.length * 2
  | [] => rfl
  | x :: xs => by
    simp only [slcells, List.length_cons, slcells_len xs]
    omega
theorem slcells_app : ∀ xs ys : List Slt, slcells (xs ++ ys) = slcells xs ++ slcells ys
  | [], _ => rfl
  | x :: xs, ys => by
    simp only [slcells, List.cons_append]
    rw [slcells_app xs ys]
theorem slcells_get : ∀ (xs : List Slt) (i : Nat), i < xs.length → (slcells xs)[i * 2]? = some (.bool (xs.getD i default).ref) ∧ (slcells xs)[i * 2 + 1]? = some (.int .i64 (xs.getD i default).n)
  | [], i, h => by simp at h
  | x :: xs, 0, _ => ⟨rfl, rfl⟩
  | x :: xs, i + 1, h => by
    have ih := slcells_get xs i (by simpa using h)
    have e : (i + 1) * 2 = i * 2 + 2 := by omega
    rw [e]
    exact ih
theorem slcells_one : ∀ (xs : List Slt), ∀ u ∈ slcells xs, u.oneCell' = true
  | x :: xs, u, h => by
    simp only [slcells, List.mem_cons] at h
    rcases h with rfl | rfl | h
    · rfl
    · rfl
    · exact slcells_one xs u h
  | [], u, h => by cases h
/-- A row of slots of one's own. -/
def OwnSl (w : World) (B : Nat) (v : Value) (xs : List Slt) : Prop := w.ownsRow B 44 2 v xs.length (slcells xs)
theorem OwnSl.nil (w : World) (B : Nat) : OwnSl w B (.slice none 0 0) [] := World.ownsRow_nil _ _ _ _
theorem OwnSl.shape {w : World} {B : Nat} {v : Value} {xs : List Slt} (h : OwnSl w B v xs) : ∃ p c, v = .slice p xs.length c := by
  rcases h.2 with ⟨h1, h2⟩ | ⟨g, c, cur, h1, _⟩
  · exact ⟨none, 0, by rw [h1, h2]⟩
  · exact ⟨_, c, h1⟩
theorem OwnSl.upd {w w' : World} {B : Nat} {v : Value} {xs : List Slt} {T : List Nat} (h : OwnSl w B v xs) (hu : Upd T w w') (hT : ∀ k, v.ownBlock = some k → k ∉ T) : OwnSl w' B v xs := row_upd h hu hT

/-- A frame, and the values of its rows. -/
structure Fr where
  m : Nat
  pc : Int
  loc : List Slt
  stk : List Slt
deriving Inhabited
structure FrV where
  lv : Value
  sv : Value
deriving Inhabited
def frcells : List Fr → List FrV → List Value
  | f :: fs, v :: vs => .int .i64 f.m :: .int .i64 f.pc :: v.lv :: v.sv :: frcells fs vs
  | _, _ => []
theorem frcells_len : ∀ (fs : List Fr) (vs : List FrV), vs.length = fs.length → (frcells fs vs).length = fs.length * 4
  | [], [], _ => rfl
  | f :: fs, v :: vs, h => by
    simp only [frcells, List.length_cons, frcells_len fs vs (by simpa using h)]
    omega
theorem frcells_snoc : ∀ (fs : List Fr) (vs : List FrV) (f : Fr) (v : FrV), vs.length = fs.length → frcells (fs ++ [f]) (vs ++ [v]) = frcells fs vs ++ [.int .i64 f.m, .int .i64 f.pc, v.lv, v.sv]
  | [], [], _, _, _ => rfl
  | a :: fs, b :: vs, f, v, h => by
    simp only [frcells, List.cons_append]
    rw [frcells_snoc fs vs f v (by simpa using h)]
theorem frcells_get : ∀ (fs : List Fr) (vs : List FrV) (i : Nat), vs.length = fs.length → i < fs.length → (frcells fs vs)[i * 4]? = some (.int .i64 (fs.getD i default).m) ∧ (frcells fs vs)[i * 4 + 1]? = some (.int .i64 (fs.getD i default).pc) ∧ (frcells fs vs)[i * 4 + 2]? = some (vs.getD i default).lv ∧ (frcells fs vs)[i * 4 + 3]? = some (vs.getD i default).sv
  | [], _, i, _, h => by simp at h
  | f :: fs, v :: vs, 0, _, _ => ⟨rfl, rfl, rfl, rfl⟩
  | f :: fs, v :: vs, i + 1, h, h2 => by
    have ih := frcells_get fs vs i (by simpa using h) (by simpa using h2)
    have e : (i + 1) * 4 = i * 4 + 4 := by omega
    rw [e]
    exact ih
/-- The rows' blocks. -/
def FrV.has (v : FrV) (b : Nat) : Prop := v.lv.ownBlock = some b ∨ v.sv.ownBlock = some b
/-- The box of a stack. -/
def stkCells (ib : Nat) (cv mv : Value) (limit words : Int) (lv : Value) : Array Value := #[.pointer (some ⟨ib, 0, none⟩), cv, mv, .int .i64 limit, .int .i64 words, lv]
/-- Frames in memory. -/
structure FrsAt (w : World) (B : Nat) (lv : Value) (fs : List Fr) (vs : List FrV) : Prop where
  row : w.ownsRow B 110 4 lv fs.length (frcells fs vs)
  len : vs.length = fs.length
  loc : ∀ i, i < fs.length → OwnSl w B (vs.getD i default).lv (fs.getD i default).loc
  stk : ∀ i, i < fs.length → OwnSl w B (vs.getD i default).sv (fs.getD i default).stk
  two : ∀ i, i < fs.length → ∀ b, (vs.getD i default).lv.ownBlock = some b → (vs.getD i default).sv.ownBlock ≠ some b
  apart : ∀ i j, i < fs.length → j < fs.length → i ≠ j → ∀ b, (vs.getD i default).has b → ¬ (vs.getD j default).has b
/-- A stack: since W0 only what was asked, and the stack's own blocks, were written. -/
structure StkAt (W0 w : World) (sb ib : Nat) (p : Prg) (ss : List Lk) (n0 n : Int) (cv mv : Value) (limit words : Int) (lv : Value) (fs : List Fr) (vs : List FrV) : Prop where
  box : w.heap[sb]? = some (.cells (stkCells ib cv mv limit words lv) 105)
  frs : FrsAt w (sb + 1) lv fs vs
  info : InfoK W0 w ib p ss n0 n
  meths : MethsAt W0 mv p.ms
  at_ : sb = W0.heap.size
theorem FrsAt.upd {w w' : World} {B : Nat} {lv : Value} {fs : List Fr} {vs : List FrV} {T : List Nat} (h : FrsAt w B lv fs vs) (hu : Upd T w w') (hT : ∀ t ∈ T, t < B ∨ w.heap.size ≤ t) : FrsAt w' B lv fs vs := by
  have off : ∀ {v : Value} {e : TypeId} {c n : Nat} {xs : List Value}, w.ownsRow B e c v n xs → ∀ k, v.ownBlock = some k → k ∉ T := fun ho k hk hm => by
    have h1 := World.ownsRow.lt ho k hk
    have h2 := hT k hm
    omega
  exact ⟨row_upd h.row hu (off h.row), h.len, fun i hi => row_upd (h.loc i hi) hu (off (h.loc i hi)), fun i hi => row_upd (h.stk i hi) hu (off (h.stk i hi)), h.two, h.apart⟩
theorem StkAt.same {W0 w w' : World} {sb ib : Nat} {p : Prg} {ss : List Lk} {n0 n : Int} {cv mv : Value} {limit words : Int} {lv : Value} {fs : List Fr} {vs : List FrV} (h : StkAt W0 w sb ib p ss n0 n cv mv limit words lv fs vs) (hu : Upd [] w w') : StkAt W0 w' sb ib p ss n0 n cv mv limit words lv fs vs :=
  ⟨hu.heap h.box (by simp), h.frs.upd hu (by simp), h.info.keep hu (by simp), h.meths, h.at_⟩
theorem FrsAt.cell {w : World} {B : Nat} {lv : Value} {fs : List Fr} {vs : List FrV} (h : FrsAt w B lv fs vs) {i : Nat} (hi : i < fs.length) : ∃ g c, lv = .slice (some ⟨g, 0, none⟩) fs.length c ∧ w.cell? ⟨g, i * 4, none⟩ = some (.int .i64 (fs.getD i default).m) ∧ w.cell? ⟨g, i * 4 + 1, none⟩ = some (.int .i64 (fs.getD i default).pc) ∧ w.cell? ⟨g, i * 4 + 2, none⟩ = some (vs.getD i default).lv ∧ w.cell? ⟨g, i * 4 + 3, none⟩ = some (vs.getD i default).sv := by
  rcases h.row.2 with ⟨h1, h2⟩ | ⟨g, c, cur, h1, _⟩
  · omega
  · obtain ⟨g0, g1, g2, g3⟩ := frcells_get fs vs i h.len hi
    have cell : ∀ j u, (frcells fs vs)[j]? = some u → w.cell? ⟨g, j, none⟩ = some u := fun j u hj => by
      have := h.row.cells (g := g) (by rw [h1]; rfl) j u hj
      rwa [Addr.add_lit, Nat.zero_add] at this
    exact ⟨g, c, h1, cell _ _ g0, cell _ _ g1, cell _ _ g2, cell _ _ g3⟩
theorem FrsAt.shape {w : World} {B : Nat} {lv : Value} {fs : List Fr} {vs : List FrV} (h : FrsAt w B lv fs vs) : ∃ p c, lv = .slice p fs.length c := by
  rcases h.row.2 with ⟨h1, h2⟩ | ⟨g, c, cur, h1, _⟩
  · exact ⟨none, 0, by rw [h1, h2]⟩
  · exact ⟨_, c, h1⟩
theorem FrsAt.zero (w : World) (B : Nat) : FrsAt w B (.slice none 0 0) [] [] := ⟨⟨by simp [frcells], .inl ⟨rfl, rfl⟩⟩, rfl, by simp, by simp, by simp, by simp⟩

set_option maxRecDepth 100000 in
theorem slen_any (W0 w : World) (sb ib : Nat) (p : Prg) (ss : List Lk) (n0 n : Int) (cv mv : Value) (limit words : Int) (lv : Value) (fs : List Fr) (vs : List FrV) (h : StkAt W0 w sb ib p ss n0 n cv mv limit words lv fs vs) :
    Calls Tryz.prog 22 #[.pointer (some ⟨sb, 0, none⟩)] w fun e w' => e = .returned (.int .i64 fs.length) ∧ w = w' := by
  obtain ⟨p1, c1, rfl⟩ := h.frs.shape
  have m5 : w.cell? ⟨sb, 5, none⟩ = some (.slice p1 fs.length c1) := by rw [cell_of h.box]; rfl
  clear h
  go_enter Tryz.func22, Tryz.ntmps22
  go_wp2_with fail
  go_ret
  exact ⟨rfl, rfl⟩
set_option maxRecDepth 100000 in
theorem swords_any (W0 w : World) (sb ib : Nat) (p : Prg) (ss : List Lk) (n0 n : Int) (cv mv : Value) (limit words : Int) (lv : Value) (fs : List Fr) (vs : List FrV) (h : StkAt W0 w sb ib p ss n0 n cv mv limit words lv fs vs) :
    Calls Tryz.prog 23 #[.pointer (some ⟨sb, 0, none⟩)] w fun e w' => e = .returned (.int .i64 words) ∧ w = w' := by
  have m4 : w.cell? ⟨sb, 4, none⟩ = some (.int .i64 words) := by rw [cell_of h.box]; rfl
  clear h
  go_enter Tryz.func23, Tryz.ntmps23
  go_wp2_with fail
  go_ret
  exact ⟨rfl, rfl⟩
/-- The frame on top: its place. -/
def topP (lv : Value) (n : Nat) : Value := match lv with
  | .slice (some a) _ _ => if n = 0 then .pointer none else .pointer (some ⟨a.block, a.off + (n - 1) * 4, none⟩)
  | _ => .pointer none

set_option maxRecDepth 100000 in
set_option maxHeartbeats 1000000 in
theorem stop_any (W0 w : World) (sb ib : Nat) (p : Prg) (ss : List Lk) (n0 n : Int) (cv mv : Value) (limit words : Int) (lv : Value) (fs : List Fr) (vs : List FrV) (h : StkAt W0 w sb ib p ss n0 n cv mv limit words lv fs vs) :
    Calls Tryz.prog 40 #[.pointer (some ⟨sb, 0, none⟩)] w fun e w' => e = .returned (topP lv fs.length) ∧ Upd [] w w' := by
  by_cases h0 : fs.length = 0
  · obtain ⟨p1, c1, rfl⟩ := h.frs.shape
    have m5 : w.cell? ⟨sb, 5, none⟩ = some (.slice p1 fs.length c1) := by rw [cell_of h.box]; rfl
    have ht : topP (.slice p1 fs.length c1) fs.length = .pointer none := by
      unfold topP
      cases p1 with
      | none => rfl
      | some a => simp only; rw [if_pos h0]
    rw [ht]
    clear h ht
    go_enter Tryz.func40, Tryz.ntmps40
    go_wp2_with fail
    go_ret
    exact ⟨rfl, Upd.refl _ _⟩
  · obtain ⟨g, c, rfl, _⟩ := h.frs.cell (i := fs.length - 1) (by omega)
    have m5 : w.cell? ⟨sb, 5, none⟩ = some (.slice (some ⟨g, 0, none⟩) fs.length c) := by rw [cell_of h.box]; rfl
    have ht : topP (.slice (some ⟨g, 0, none⟩) fs.length c) fs.length = .pointer (some ⟨g, (fs.length - 1) * 4, none⟩) := by
      unfold topP
      simp only
      rw [if_neg h0, Nat.zero_add]
    have hm : fs.length ≤ 9223372036854775807 := by
      have := (h.frs.row).2
      rcases this with ⟨_, h2⟩ | ⟨_, _, _, h1, _, _, h4, h5, _⟩
      · omega
      · unfold maxLen at h5; omega
    rw [ht]
    clear h ht
    have d0 : ((fs.length : Int) == 0) = false := by rw [beq_eq_false_iff_ne]; omega
    have s1 : IntKind.i64.wrap ((fs.length : Int) - 1) = ((fs.length - 1 : Nat) : Int) := by rw [IntWalk.i64_in _ (by omega)]; omega
    have hl : fs.length - 1 < fs.length := by omega
    go_enter Tryz.func40, Tryz.ntmps40
    go_wp2_with fail
    go_quiet (fail)
    go_wp2_with fail
    go_ret
    exact ⟨rfl, (Upd.refl _ _).drewN _⟩

set_option maxRecDepth 100000 in
set_option maxHeartbeats 1000000 in
theorem snew_any (ib : Nat) (p : Prg) (ss : List Lk) (n : Int) (limit : Int) (w : World) (hi : InfoAt w ib p ss n) (hok : p.Ok) (hl : 0 ≤ limit) (hl2 : limit ≤ 65536) :
    Calls Tryz.prog 7 #[.pointer (some ⟨ib, 0, none⟩), .int .i64 limit] w fun e w' => ∃ W0 cv mv, e = .returned (.tuple #[.pointer (some ⟨W0.heap.size, 0, none⟩), .nilIface]) ∧ Upd [] w W0 ∧ StkAt W0 w' W0.heap.size ib p ss n n cv mv limit 0 (.slice none 0 0) [] [] ∧ Upd [] w w' := by
  have HI := Lib.hid hi
  have hmany := hok.many
  have hfew := hok.few
  have HPR := Lib.hid (iprog_any ib p ss n w hi (by omega) (by omega) (fun j hj => by have := hok.code1 j hj; omega))
  clear hi hok
  go_enter Tryz.func7, Tryz.ntmps7
  go_wp2_with fail
  refine HPR.out.mono ?_
  rintro e w1 ⟨cv, mv, rfl, hc1, hm1, hu1⟩
  have HM1 := Lib.hid hm1
  obtain ⟨cp, cc, rfl, _⟩ := hc1
  obtain ⟨mp, mc, rfl, _⟩ := hm1
  have HI1 := Lib.hid (HI.out.upd hu1)
  have HU1 := Lib.hid hu1
  clear hu1 HPR HI
  go_wp2_with fail
  go_ret2
  have hu2 := (Upd.refl [] w1).alloc (.cells (stkCells ib (.slice cp p.cs.length cc) (.slice mp p.ms.length mc) limit 0 (.slice none 0 0)) 105)
  have hb2 := heap_alloc_new w1 (.cells (stkCells ib (.slice cp p.cs.length cc) (.slice mp p.ms.length mc) limit 0 (.slice none 0 0)) 105)
  exact ⟨w1, _, _, rfl, HU1.out, ⟨hb2, FrsAt.zero _ _, (InfoK.start HI1.out).keep hu2 (by simp), HM1.out, rfl⟩, HU1.out.trans hu2⟩

/-- May a slot of a letter hold this? -/
def fitsB (x : Slt) (c : Int) : Bool := (x.ref == (c == 82)) && (!x.ref || decide (0 ≤ x.n))
set_option maxRecDepth 100000 in
set_option maxHeartbeats 1000000 in
theorem fits_any (x : Slt) (c : Int) (w : World) :
    Calls Tryz.prog 37 #[.agg #[.bool x.ref, .int .i64 x.n], .int .u8 c] w fun e w' => e = .returned (.bool (fitsB x c)) ∧ Upd [] w w' := by
  obtain ⟨r, n⟩ := x
  have hu := (Upd.refl [] w).alloc (.cells #[.bool r, .int .i64 n] 44)
  have HU := Lib.hid hu
  have hb := heap_alloc_new w (.cells #[.bool r, .int .i64 n] 44)
  unfold fitsB
  simp only
  clear hu hb
  go_enter Tryz.func37, Tryz.ntmps37
  by_cases hc : c = 82
  · subst hc
    cases r with
    | true =>
      by_cases hn : 0 ≤ n
      · have hd : decide (0 ≤ n) = true := decide_eq_true hn
        go_wp2_with fail
        go_ret
        exact ⟨by simp [hn], HU.out⟩
      · have hd : decide (0 ≤ n) = false := decide_eq_false hn
        go_wp2_with fail
        go_ret
        exact ⟨by simp, HU.out⟩
    | false =>
      go_wp2_with fail
      go_ret
      exact ⟨by simp, HU.out⟩
  · have hd : (c == 82) = false := by rw [beq_eq_false_iff_ne]; exact hc
    cases r with
    | true =>
      go_wp2_with fail
      go_ret
      exact ⟨by simp [hc], HU.out⟩
    | false =>
      go_wp2_with fail
      go_ret
      exact ⟨by simp [hc], HU.out⟩
end Go.Proofs.YtopojeanbpokaaaGreatDoor

/-! A stack of frames: words asked for, Pop. -/
/-! A stack of frames: words asked for, Pop. -/
namespace Go.Proofs.YtopojeanbpokaaaGreatDoor
open Go.RowKit

set_option maxRecDepth 100000 in
set_option maxHeartbeats 1000000 in
theorem words_in2 (ib : Nat) (p : Prg) (ss : List Lk) (n : Int) (k : Nat) (w : World) (h : InfoAt w ib p ss n) (hl : ss.length = p.ms.length) (hk : k < p.ms.length) (hc : 0 < (p.ms.getD k default).code.length) (hz1 : (p.ms.getD k default).params.size ≤ 1000) (hz2 : (p.ms.getD k default).locals.size ≤ 1000) (hmo : (ss.getD k default).most ≤ 1000) (h0 : 0 ≤ n) (h1 : n ≤ 1000000000) :
    Calls Tryz.prog 38 #[.pointer (some ⟨ib, 0, none⟩), .int .i64 k] w fun e w' => e = .returned (.int .i64 (4 + ((p.ms.getD k default).params.size + (p.ms.getD k default).locals.size : Nat) + (ss.getD k default).most)) ∧ InfoAs w w' ib p ss n ∧ Upd [ib] w w' := by
  go_enter Tryz.func38, Tryz.ntmps38
  go_wp2_with fail
  refine (ask_in2 ib p ss n k w h hl hk h0 h1).mono ?_
  rintro e w1 ⟨v, rfl, ⟨gs, gb, kp, kc, rfl, hlk, hi0, hu⟩, hst⟩
  have hi : InfoAs w w1 ib p ss n := ⟨hi0, hst⟩
  clear hi0 hst
  generalize hmg : p.ms.getD k default = m at hlk hc hz1 hz2 ⊢
  generalize hsg : ss.getD k default = s at hlk hmo ⊢
  have HMG := Lib.hid hmg
  have HSG := Lib.hid hsg
  clear hmg hsg
  have hu2 := ((Upd.refl [] w1).alloc (.cells #[.slice (some ⟨gs, 0, none⟩) m.code.length m.code.length, .slice (some ⟨gb, 0, none⟩) m.code.length m.code.length, .int .i64 s.most] 96)).alloc (.cells #[.string m.params, .string m.locals, .string m.ret, .slice kp m.code.length kc] 51)
  have hA := ((Upd.refl [] _).alloc (.cells #[.string m.params, .string m.locals, .string m.ret, .slice kp m.code.length kc] 51)).heap (heap_alloc_new w1 (.cells #[.slice (some ⟨gs, 0, none⟩) m.code.length m.code.length, .slice (some ⟨gb, 0, none⟩) m.code.length m.code.length, .int .i64 s.most] 96)) (by simp)
  have hB := heap_alloc_new (w1.alloc (.cells #[.slice (some ⟨gs, 0, none⟩) m.code.length m.code.length, .slice (some ⟨gb, 0, none⟩) m.code.length m.code.length, .int .i64 s.most] 96)) (.cells #[.string m.params, .string m.locals, .string m.ret, .slice kp m.code.length kc] 51)
  rw [show (w1.alloc (.cells #[.slice (some ⟨gs, 0, none⟩) m.code.length m.code.length, .slice (some ⟨gb, 0, none⟩) m.code.length m.code.length, .int .i64 s.most] 96)).heap.size = w1.heap.size + 1 by simp] at hB
  have HL := Lib.hid (fun q hq => (⟨hu2.cell (hlk q hq).1 (by simp), hu2.cell (hlk q hq).2 (by simp)⟩ : _ ∧ _))
  have HI := Lib.hid (hi.upd hu2)
  have HU := Lib.hid (hu.trans (hu2.mono (T := [ib]) (by simp)))
  clear hlk hi hu hu2
  go_upto_region 2 with fail
  generalize (w1.alloc (.cells #[.slice (some ⟨gs, 0, none⟩) m.code.length m.code.length, .slice (some ⟨gb, 0, none⟩) m.code.length m.code.length, .int .i64 s.most] 96)).alloc (.cells #[.string m.params, .string m.locals, .string m.ret, .slice kp m.code.length kc] 51) = w2 at HL HI HU hA hB ⊢
  generalize w1.heap.size = B at hA hB ⊢
  have a0 : w2.cell? ⟨B, 0, none⟩ = some (.slice (some ⟨gs, 0, none⟩) m.code.length m.code.length) := by rw [cell_of hA]; rfl
  have a1 : w2.cell? ⟨B, 1, none⟩ = some (.slice (some ⟨gb, 0, none⟩) m.code.length m.code.length) := by rw [cell_of hA]; rfl
  have a2 : w2.cell? ⟨B, 2, none⟩ = some (.int .i64 s.most) := by rw [cell_of hA]; rfl
  have b0 : w2.cell? ⟨B + 1, 0, none⟩ = some (.string m.params) := by rw [cell_of hB]; rfl
  have b1 : w2.cell? ⟨B + 1, 1, none⟩ = some (.string m.locals) := by rw [cell_of hB]; rfl
  have b2 : w2.cell? ⟨B + 1, 2, none⟩ = some (.string m.ret) := by rw [cell_of hB]; rfl
  have b3 : w2.cell? ⟨B + 1, 3, none⟩ = some (.slice kp m.code.length kc) := by rw [cell_of hB]; rfl
  clear hA hB
  have d0 : ((m.code.length : Int) == 0) = false := by rw [beq_eq_false_iff_ne]; omega
  have HK := Lib.hid (kinds_any m (.slice kp m.code.length kc) w2.drew (by omega) (by omega))
  have hks := kinds_size m
  have hks2 : (bs (kindsL m)).size ≤ 2000 := by omega
  have HKS := Lib.hid hks
  clear hks
  generalize bs (kindsL m) = ks at HK hks2 HKS
  have hF0 : w2.cell? ⟨B, 2, none⟩ = some (.int .i64 s.most) ∧ w2.cell? ⟨B + 1, 0, none⟩ = some (.string m.params) ∧ w2.cell? ⟨B + 1, 1, none⟩ = some (.string m.locals) ∧ w2.cell? ⟨B + 1, 2, none⟩ = some (.string m.ret) ∧ w2.cell? ⟨B + 1, 3, none⟩ = some (.slice kp m.code.length kc) := ⟨a2, b0, b1, b2, b3⟩
  have hd := (Upd.refl [] w2).drew
  have hF1 : w2.drew.cell? ⟨B, 2, none⟩ = some (.int .i64 s.most) ∧ w2.drew.cell? ⟨B + 1, 0, none⟩ = some (.string m.params) ∧ w2.drew.cell? ⟨B + 1, 1, none⟩ = some (.string m.locals) ∧ w2.drew.cell? ⟨B + 1, 2, none⟩ = some (.string m.ret) ∧ w2.drew.cell? ⟨B + 1, 3, none⟩ = some (.slice kp m.code.length kc) := hF0
  go_wp2_with fail
  go_region_held3 (fun w' => w'.cell? ⟨B, 2, none⟩ = some (.int .i64 s.most) ∧ w'.cell? ⟨B + 1, 0, none⟩ = some (.string m.params) ∧ w'.cell? ⟨B + 1, 1, none⟩ = some (.string m.locals) ∧ w'.cell? ⟨B + 1, 2, none⟩ = some (.string m.ret) ∧ w'.cell? ⟨B + 1, 3, none⟩ = some (.slice kp m.code.length kc))
    (first | exact hk0 | exact hF1 | exact hF0)
    ((go_at_call 41; refine HK.out.mono ?_; rintro e w3 ⟨rfl, hu3⟩; have hk0 := (⟨hu3.cell hF1.1 (by simp), hu3.cell hF1.2.1 (by simp), hu3.cell hF1.2.2.1 (by simp), hu3.cell hF1.2.2.2.1 (by simp), hu3.cell hF1.2.2.2.2 (by simp)⟩ : _ ∧ _ ∧ _ ∧ _ ∧ _)))
  have hu4 := hd.trans hu3
  clear hk0 hF0 hF1
  go_wp2_with fail
  go_ret
  exact ⟨by
    rw [HMG.out, HSG.out, ← HKS.out]
    show Ending.returned (.int .i64 (IntKind.i64.wrap (IntKind.i64.wrap (4 + (ks.size : Int)) + (s.most : Int)))) = _
    rw [IntWalk.i64_in (4 + (ks.size : Int)) (by omega), IntWalk.i64_in _ (by omega)], HI.out.upd hu4, HU.out.trans (hu4.mono (T := [ib]) (by simp))⟩



/-- The words of a frame. -/
def frW (p : Prg) (ss : List Lk) (k : Nat) : Int := 4 + ((p.ms.getD k default).params.size + (p.ms.getD k default).locals.size : Nat) + (ss.getD k default).most
theorem cut_fr (w : World) (g len c q : Nat) (h : q ≤ c) : (Instr.slice 103 (.slice (some ⟨g, 0, none⟩) len c) none (some (.int .i64 (q : Int))) none).run Tryz.prog w = .ok (.slice (some ⟨g, 0, none⟩) q c) w := by
  have hsz : (sizeOf 110).run Tryz.prog w = .ok 4 w := by kernel_rfl
  have he : Tryz.prog.elem 103 = 110 := by kernel_rfl
  rw [run_slice_h w 103 _ _ _ (by rw [he]; exact Tryz.underlying103) .i64 (q : Int) (by omega) (by omega), he, hsz]
  simp [Result.andThen, sliced, Addr.add]
/-- What a stack's frames are of, and how large. -/
structure StkOk (p : Prg) (ss : List Lk) (limit words : Int) (fs : List Fr) : Prop where
  len : ss.length = p.ms.length
  ok : p.Ok
  look : ∀ j, j < p.ms.length → lookM p (p.ms.getD j default) = .ok (ss.getD j default)
  meth : ∀ f ∈ fs, f.m < p.ms.length
  lim : 0 ≤ limit ∧ limit ≤ 65536
  wd : 0 ≤ words ∧ words ≤ limit
  sum : words = (fs.map fun f => frW p ss f.m).sum
theorem StkOk.most {p : Prg} {ss : List Lk} {limit words : Int} {fs : List Fr} (h : StkOk p ss limit words fs) {k : Nat} (hk : k < p.ms.length) : (ss.getD k default).most ≤ 12 := by
  have h1 := h.ok.code1 k hk
  exact (look_good (by omega) (h.look k hk)).2.1.most

theorem frcells_take : ∀ (fs : List Fr) (vs : List FrV) (f : Fr) (v : FrV), vs.length = fs.length → (frcells (fs ++ [f]) (vs ++ [v])).take (fs.length * 4) = frcells fs vs := fun fs vs f v h => by
  rw [frcells_snoc _ _ _ _ h, List.take_append_of_le_length (by rw [frcells_len _ _ h]; omega), List.take_of_length_le (by rw [frcells_len _ _ h]; omega)]
theorem FrsAt.pop {w : World} {B g c : Nat} {fs : List Fr} {vs : List FrV} {f : Fr} {v : FrV} (h : FrsAt w B (.slice (some ⟨g, 0, none⟩) (fs.length + 1) c) (fs ++ [f]) (vs ++ [v])) : FrsAt w B (.slice (some ⟨g, 0, none⟩) fs.length c) fs vs := by
  have hl : vs.length = fs.length := by have := h.len; simp at this; exact this
  have gi : ∀ {i : Nat}, i < fs.length → (fs ++ [f]).getD i default = fs.getD i default ∧ (vs ++ [v]).getD i default = vs.getD i default := fun hi => ⟨getD_snoc_lt _ _ _ _ hi, getD_snoc_lt _ _ _ _ (by omega)⟩
  refine ⟨?_, hl, fun i hi => ?_, fun i hi => ?_, fun i hi => ?_, fun i j hi hj => ?_⟩
  · obtain ⟨h0, h1⟩ := h.row
    rcases h1 with ⟨h1, h2⟩ | ⟨g1, c1, cur, h1, h2, h3, h4, h5, h6, h7⟩
    · cases h1
    · injection h1 with e1 _ e3
      injection e1 with e1
      injection e1 with e1
      subst e1 e3
      refine ⟨by rw [frcells_len _ _ hl], .inr ⟨g, c, cur, rfl, h2, h3, by simp at h4; omega, h5, h6, ?_⟩⟩
      have h8 := congrArg (List.take (fs.length * 4)) h7
      rw [List.take_take, frcells_take _ _ _ _ hl, Nat.min_eq_left (by simp; omega)] at h8
      exact h8
  · have := h.loc i (by simp; omega); rwa [(gi hi).1, (gi hi).2] at this
  · have := h.stk i (by simp; omega); rwa [(gi hi).1, (gi hi).2] at this
  · have := h.two i (by simp; omega); rwa [(gi hi).2] at this
  · have := h.apart i j (by simp; omega) (by simp; omega); rwa [(gi hi).2, (gi hj).2] at this

theorem sum_nn : ∀ l : List Int, (∀ x ∈ l, 0 ≤ x) → 0 ≤ l.sum
  | [], _ => by simp
  | x :: l, h => by
    have h1 := h x (by simp)
    have h2 := sum_nn l (fun y hy => h y (by simp [hy]))
    rw [List.sum_cons]
    omega
/-- A stack's own blocks are written. -/
theorem FrsAt.off {w w' : World} {B : Nat} {lv : Value} {fs : List Fr} {vs : List FrV} {T : List Nat} (h : FrsAt w B lv fs vs) (hu : Upd T w w') (hT : ∀ t ∈ T, t < B) : FrsAt w' B lv fs vs := h.upd hu (fun t ht => .inl (hT t ht))

theorem StkAt.ib_lt {W0 w : World} {sb ib : Nat} {p : Prg} {ss : List Lk} {n0 n : Int} {cv mv : Value} {limit words : Int} {lv : Value} {fs : List Fr} {vs : List FrV} (h : StkAt W0 w sb ib p ss n0 n cv mv limit words lv fs vs) : ib < sb := by
  have h2 := h.at_
  rw [h2]
  exact h.info.lt
theorem StkAt.setw {W0 w : World} {sb ib : Nat} {p : Prg} {ss : List Lk} {n0 n : Int} {cv mv : Value} {limit words : Int} {lv : Value} {fs : List Fr} {vs : List FrV} (h : StkAt W0 w sb ib p ss n0 n cv mv limit words lv fs vs) (x : Int) : StkAt W0 (w.setCell ⟨sb, 4, none⟩ (.int .i64 x)) sb ib p ss n0 n cv mv limit x lv fs vs ∧ Upd [sb] w (w.setCell ⟨sb, 4, none⟩ (.int .i64 x)) := by
  have hu : Upd [sb] w (w.setCell ⟨sb, 4, none⟩ (.int .i64 x)) := (Upd.refl [sb] w).setCell (.inl (by simp)) _
  have h2 := h.at_
  exact ⟨⟨heap_setCell h.box 4 _, h.frs.off hu (by simp), h.info.keep hu (fun q hq => by rw [List.mem_singleton] at hq; omega), h.meths, h.at_⟩, hu⟩
theorem StkAt.setl {W0 w : World} {sb ib : Nat} {p : Prg} {ss : List Lk} {n0 n : Int} {cv mv : Value} {limit words : Int} {lv : Value} {fs : List Fr} {vs : List FrV} (h : StkAt W0 w sb ib p ss n0 n cv mv limit words lv fs vs) {lv' : Value} {fs' : List Fr} {vs' : List FrV} (hf : FrsAt w (sb + 1) lv' fs' vs') : StkAt W0 (w.setCell ⟨sb, 5, none⟩ lv') sb ib p ss n0 n cv mv limit words lv' fs' vs' ∧ Upd [sb] w (w.setCell ⟨sb, 5, none⟩ lv') := by
  have hu : Upd [sb] w (w.setCell ⟨sb, 5, none⟩ lv') := (Upd.refl [sb] w).setCell (.inl (by simp)) _
  have h2 := h.at_
  exact ⟨⟨heap_setCell h.box 5 _, hf.off hu (by simp), h.info.keep hu (fun q hq => by rw [List.mem_singleton] at hq; omega), h.meths, h.at_⟩, hu⟩
theorem StkAt.asked {W0 w : World} {sb ib : Nat} {p : Prg} {ss : List Lk} {n0 n : Int} {cv mv : Value} {limit words : Int} {lv : Value} {fs : List Fr} {vs : List FrV} (h : StkAt W0 w sb ib p ss n0 n cv mv limit words lv fs vs) {w' : World} (hu : Upd [ib] w w') (has : InfoAs w w' ib p ss n) : StkAt W0 w' sb ib p ss n0 (n + 1) cv mv limit words lv fs vs := by
  have h3 := h.ib_lt
  exact ⟨hu.heap h.box (by simp; omega), h.frs.off hu (by simp; omega), h.info.step hu has.st, h.meths, h.at_⟩

theorem spop_none (W0 w : World) (sb ib : Nat) (p : Prg) (ss : List Lk) (n0 n : Int) (cv mv : Value) (limit words : Int) (lv : Value) (vs : List FrV) (h : StkAt W0 w sb ib p ss n0 n cv mv limit words lv [] vs) :
    Calls Tryz.prog 13 #[.pointer (some ⟨sb, 0, none⟩)] w fun e w' => e = .returned (.bool false) ∧ Upd [] w w' := by
  have HTP := Lib.hid (stop_any W0 w sb ib p ss n0 n cv mv limit words lv [] vs h)
  obtain ⟨p1, c1, rfl⟩ := h.frs.shape
  have ht : topP (.slice p1 ([] : List Fr).length c1) ([] : List Fr).length = .pointer none := by
    unfold topP
    cases p1 with
    | none => rfl
    | some a => rfl
  rw [ht] at HTP
  clear h ht
  go_enter Tryz.func13, Tryz.ntmps13
  go_wp2_with fail
  refine HTP.out.mono ?_
  rintro e w1 ⟨rfl, hu⟩
  have HU := Lib.hid hu
  clear hu HTP
  go_wp2_with fail
  go_ret
  exact ⟨rfl, HU.out⟩

set_option maxRecDepth 100000 in
set_option maxHeartbeats 4000000 in
theorem spop_own (W0 w : World) (sb ib : Nat) (p : Prg) (ss : List Lk) (n0 n : Int) (cv mv : Value) (limit words : Int) (lv : Value) (fs : List Fr) (vs : List FrV) (f : Fr) (v : FrV) (h : StkAt W0 w sb ib p ss n0 n cv mv limit words lv (fs ++ [f]) (vs ++ [v])) (hok : StkOk p ss limit words (fs ++ [f])) (h0 : 0 ≤ n) (h1 : n ≤ 900000000) :
    Calls Tryz.prog 13 #[.pointer (some ⟨sb, 0, none⟩)] w fun e w' => e = .returned (.bool true) ∧ (∃ lv', StkAt W0 w' sb ib p ss n0 (n + 1) cv mv limit (words - frW p ss f.m) lv' fs vs ∧ lv'.ownBlock = lv.ownBlock) ∧ StkOk p ss limit (words - frW p ss f.m) fs ∧ Upd [sb, ib] w w' := by
  have HTP := Lib.hid (stop_any W0 w sb ib p ss n0 n cv mv limit words lv (fs ++ [f]) (vs ++ [v]) h)
  have hl := h.frs.len
  obtain ⟨g, c, rfl, g0, _⟩ := h.frs.cell (i := fs.length) (by simp)
  rw [getD_snoc_eq] at g0
  have ht : topP (.slice (some ⟨g, 0, none⟩) (fs ++ [f]).length c) (fs ++ [f]).length = .pointer (some ⟨g, fs.length * 4, none⟩) := by
    unfold topP
    simp
  rw [ht] at HTP
  have hlen : (fs ++ [f]).length = fs.length + 1 := by simp
  have H := Lib.hid h
  rw [hlen] at H
  have hk : f.m < p.ms.length := hok.meth f (by simp)
  have hsz := hok.ok.sizes f.m
  have hc1 := hok.ok.code1 f.m hk
  have hmost := hok.most hk
  have hfw : 0 ≤ frW p ss f.m ∧ frW p ss f.m ≤ 1000 := by unfold frW; omega
  have hsum := hok.sum
  rw [List.map_append, List.sum_append] at hsum
  simp only [List.map_cons, List.map_nil, List.sum_cons, List.sum_nil, Int.add_zero] at hsum
  have hnn : 0 ≤ (fs.map fun f => frW p ss f.m).sum := by
    refine sum_nn _ ?_
    intro x hx
    rw [List.mem_map] at hx
    obtain ⟨y, _, rfl⟩ := hx
    unfold frW
    omega
  have hwd := hok.wd
  have hlim := hok.lim
  have HOK2 : Hid (StkOk p ss limit (words - frW p ss f.m) fs) := ⟨hok.len, hok.ok, hok.look, fun x hx => hok.meth x (by simp [hx]), hlim, by omega, by omega⟩
  have HOK := Lib.hid hok
  have hgb : sb + 1 ≤ g := by
    rcases h.frs.row.2 with ⟨h1, h2⟩ | ⟨g1, c1, cur, h1, h2, _⟩
    · cases h1
    · injection h1 with e1
      injection e1 with e1
      injection e1 with e1
      omega
  have hib : ib < sb := by
    have h2 := h.at_
    rw [h2]
    exact h.info.lt
  clear hsum hnn
  have hgsz : g < w.heap.size := by
    have := World.block_lt_of_cell? _ _ g0
    exact this
  have HW := Lib.hid (fun W (hu : Upd [] w W) => words_in2 ib p ss n f.m W (h.info.keep hu (by simp)).now HOK.out.len hk (by omega) (by omega) (by omega) (by omega) h0 (by omega))
  have hcc : fs.length ≤ c := by
    rcases h.frs.row.2 with ⟨h1, h2⟩ | ⟨g1, c1, cur, h1, _, _, h4, _⟩
    · cases h1
    · injection h1 with _ _ e3
      rw [hlen] at h4
      omega
  have hcap : c ≤ 9223372036854775807 := by
    rcases h.frs.row.2 with ⟨h1, h2⟩ | ⟨g1, c1, cur, h1, _, _, _, h5, _⟩
    · cases h1
    · injection h1 with _ _ e3
      unfold maxLen at h5
      omega
  have hcut : ∀ W, (Instr.slice 103 (.slice (some ⟨g, 0, none⟩) (fs.length + 1) c) none (some (.int .i64 (fs.length : Int))) none).run Tryz.prog W = .ok (.slice (some ⟨g, 0, none⟩) fs.length c) W := fun W => cut_fr W g _ c fs.length (by omega)
  clear h ht hok
  go_enter Tryz.func13, Tryz.ntmps13
  go_wp2_with fail
  refine HTP.out.mono ?_
  rintro e w1 ⟨rfl, hu1⟩
  have H1 := Lib.hid (H.out.same hu1)
  have g0 := hu1.cell g0 (by simp)
  have HU1 := Lib.hid hu1
  have m0 : w1.cell? ⟨sb, 0, none⟩ = some (.pointer (some ⟨ib, 0, none⟩)) := by rw [cell_of H1.out.box]; rfl
  have m4 : w1.cell? ⟨sb, 4, none⟩ = some (.int .i64 words) := by rw [cell_of H1.out.box]; rfl
  clear HTP H hu1
  go_upto_region 4 with fail
  have hdr := (Upd.refl [] w1).drew
  have d0 := hdr.cell m0 (by simp)
  have d4 := hdr.cell m4 (by simp)
  have dg := hdr.cell g0 (by simp)
  have HWD : Hid (Calls Tryz.prog 38 #[.pointer (some ⟨ib, 0, none⟩), .int .i64 f.m] w1.drew fun e w' => e = .returned (.int .i64 (frW p ss f.m)) ∧ InfoAs w1.drew w' ib p ss n ∧ Upd [ib] w1.drew w') := HW.out _ (HU1.out.drew)
  have HD1 := Lib.hid (H1.out.same hdr)
  have hwr : IntKind.i64.wrap (words - frW p ss f.m) = words - frW p ss f.m := IntWalk.i64_in _ (by omega)
  generalize hWd : frW p ss f.m = Wd at HWD hwr HOK2 hfw ⊢
  have HWE := Lib.hid hWd
  clear hWd
  clear hdr HW
  go_region_with ((go_at_call 38; refine HWD.out.mono ?_; rintro e wz ⟨rfl, has, huz⟩; have e4 := huz.cell d4 (by simp; omega); have e0 := huz.cell d0 (by simp; omega); have eg := huz.cell dg (by simp; omega); have HBZ := Lib.hid (huz.heap HD1.out.box (by simp; omega)); have fz := froz_of HBZ.out 4; have HAS := Lib.hid has; have HUZ := Lib.hid huz))
  all_goals
    obtain ⟨hq5, hu5⟩ := (HD1.out.asked HUZ.out HAS.out).setw (words - Wd)
    have H5 := Lib.hid hq5
    have HU5 : Hid (Upd [sb, ib] w _) := ((HU1.out.drew.mono (T := [sb, ib]) (by simp)).trans (HUZ.out.mono (T := [sb, ib]) (fun _ h _ => by rw [List.mem_singleton] at h; simp [h]))).trans (hu5.mono (T := [sb, ib]) (fun _ h _ => by rw [List.mem_singleton] at h; simp [h]))
    clear hq5 hu5 HWD HD1 HAS HUZ HBZ fz e4 e0 eg d0 d4 dg m0 m4 g0 H1
    generalize wz.setCell ⟨sb, 4, none⟩ (.int .i64 (words - Wd)) = w5 at H5 HU5 ⊢
    have m5 : w5.cell? ⟨sb, 5, none⟩ = some (.slice (some ⟨g, 0, none⟩) (fs.length + 1) c) := by rw [cell_of H5.out.box]; rfl
    have d5 : w5.drew.cell? ⟨sb, 5, none⟩ = some (.slice (some ⟨g, 0, none⟩) (fs.length + 1) c) := (Upd.refl [] w5).drew.cell m5 (by simp)
    have HD5 := Lib.hid (H5.out.same (Upd.refl [] w5).drew)
    have f5 := froz_of HD5.out.box 5
    have s1 : IntKind.i64.wrap (((fs.length + 1 : Nat) : Int) - 1) = (fs.length : Int) := by rw [IntWalk.i64_in _ (by omega)]; omega
    have s2 : IntKind.i64.wrap (((fs.length : Int) + 1) - 1) = (fs.length : Int) := by rw [IntWalk.i64_in _ (by omega)]; omega
    go_upto_region 5 with fail
    go_region
    all_goals
      go_wp2_with fail
      go_ret
      obtain ⟨hq6, hu6⟩ := H5.out.setl H5.out.frs.pop
      rw [HWE.out]
      refine ⟨rfl, ⟨_, hq6.same (Upd.refl [] _).drew, rfl⟩, HOK2.out, (HU5.out.trans (hu6.mono (T := [sb, ib]) (fun _ h _ => by rw [List.mem_singleton] at h; simp [h]))).drew⟩
theorem spop_any (W0 w : World) (sb ib : Nat) (p : Prg) (ss : List Lk) (n0 n : Int) (cv mv : Value) (limit words : Int) (lv : Value) (fs : List Fr) (vs : List FrV) (f : Fr) (v : FrV) (h : StkAt W0 w sb ib p ss n0 n cv mv limit words lv (fs ++ [f]) (vs ++ [v])) (hok : StkOk p ss limit words (fs ++ [f])) (h0 : 0 ≤ n) (h1 : n ≤ 900000000) :
    Calls Tryz.prog 13 #[.pointer (some ⟨sb, 0, none⟩)] w fun e w' => e = .returned (.bool true) ∧ (∃ lv', StkAt W0 w' sb ib p ss n0 (n + 1) cv mv limit (words - frW p ss f.m) lv' fs vs) ∧ StkOk p ss limit (words - frW p ss f.m) fs ∧ Upd [sb, ib] w w' :=
  (spop_own W0 w sb ib p ss n0 n cv mv limit words lv fs vs f v h hok h0 h1).mono fun _ _ ⟨h1, ⟨lv', h2, _⟩, h3, h4⟩ => ⟨h1, ⟨lv', h2⟩, h3, h4⟩
end Go.Proofs.YtopojeanbpokaaaGreatDoor

/-! Rows of slots: read, cloned. -/
/-! Rows of slots: read, cloned. -/
namespace Go.Proofs.YtopojeanbpokaaaGreatDoor
open Go.RowKit

/-- A row of slots that can be read. -/
def SltV (w : World) (v : Value) (b : Nat) (xs : List Slt) : Prop :=
  ((v = .slice none 0 0 ∧ xs = []) ∨ ∃ cap, v = .slice (some ⟨b, 0, none⟩) xs.length cap) ∧ ∀ i, i < xs.length → w.cell? ⟨b, i * 2, none⟩ = some (.bool (xs.getD i default).ref) ∧ w.cell? ⟨b, i * 2 + 1, none⟩ = some (.int .i64 (xs.getD i default).n)
theorem SltV.upd {w w' : World} {v : Value} {b : Nat} {xs : List Slt} {T : List Nat} (h : SltV w v b xs) (hu : Upd T w w') (hT : xs = [] ∨ b ∉ T) : SltV w' v b xs := by
  refine ⟨h.1, fun i hi => ?_⟩
  rcases hT with rfl | hT
  · simp at hi
  · exact ⟨hu.cell (h.2 i hi).1 hT, hu.cell (h.2 i hi).2 hT⟩
theorem SltV.form {w : World} {v : Value} {b : Nat} {xs : List Slt} (h : SltV w v b xs) : ∃ p c, v = .slice p xs.length c := by
  rcases h.1 with ⟨h1, h2⟩ | ⟨c, h1⟩
  · exact ⟨none, 0, by rw [h1, h2]; rfl⟩
  · exact ⟨_, c, h1⟩
theorem SltV.nil (w : World) (b : Nat) : SltV w (.slice none 0 0) b [] := ⟨.inl ⟨rfl, rfl⟩, by simp⟩
theorem OwnSl.read {w : World} {B : Nat} {v : Value} {xs : List Slt} (h : OwnSl w B v xs) : ∃ b, SltV w v b xs ∧ (xs = [] ∨ B ≤ b ∧ b < w.heap.size) := by
  rcases h.2 with ⟨h1, h2⟩ | ⟨g, c, cur, h1, h2, h3, _⟩
  · have e : xs = [] := List.eq_nil_of_length_eq_zero h2
    subst e
    exact ⟨0, ⟨.inl ⟨h1, rfl⟩, by simp⟩, .inl rfl⟩
  · refine ⟨g, ⟨.inr ⟨c, h1⟩, fun i hi => ?_⟩, .inr ⟨h2, lt_of_heap h3⟩⟩
    obtain ⟨g0, g1⟩ := slcells_get xs i hi
    have cell : ∀ j u, (slcells xs)[j]? = some u → w.cell? ⟨g, j, none⟩ = some u := fun j u hj => by
      have := World.ownsRow.cells h (g := g) (by rw [h1]; rfl) j u hj
      rwa [Addr.add_lit, Nat.zero_add] at this
    exact ⟨cell _ _ g0, cell _ _ g1⟩
theorem SltV.src {w : World} {g : Nat} {xs : List Slt} {c : Nat} (h : ∀ i, i < xs.length → w.cell? ⟨g, i * 2, none⟩ = some (.bool (xs.getD i default).ref) ∧ w.cell? ⟨g, i * 2 + 1, none⟩ = some (.int .i64 (xs.getD i default).n)) : SrcV w (.slice (some ⟨g, 0, none⟩) xs.length c) xs.length (slcells xs) := by
  refine .inr ⟨_, c, rfl, fun j u hj => ?_⟩
  rw [Addr.add_lit, Nat.zero_add]
  have hl := (List.getElem?_eq_some_iff.1 hj).1
  rw [slcells_len] at hl
  obtain ⟨h1, h2⟩ := h (j / 2) (by omega)
  obtain ⟨g1, g2⟩ := slcells_get xs (j / 2) (by omega)
  rcases Nat.mod_two_eq_zero_or_one j with e | e
  · have e2 : j / 2 * 2 = j := by omega
    rw [e2] at h1 g1
    rw [g1] at hj
    injection hj with hj
    rw [h1, hj]
  · have e2 : j / 2 * 2 + 1 = j := by omega
    rw [e2] at h2 g2
    rw [g2] at hj
    injection hj with hj
    rw [h2, hj]
theorem Tryz.infoSlot : (Tryz.prog.info? 44).map (fun i => (i.zero, i.size, i.bytes)) = some (some (.agg #[.bool false, .int .i64 0]), 2, 16) := by kernel_rfl

set_option maxRecDepth 100000 in
set_option maxHeartbeats 1000000 in
theorem sclone_any (v : Value) (b : Nat) (xs : List Slt) (w : World) (h : SltV w v b xs) (hn : xs.length ≤ 100000) :
    Calls Tryz.prog 39 #[v] w fun e w' => ∃ u, e = .returned u ∧ OwnSl w' w.heap.size u xs ∧ Upd [] w w' := by
  obtain ⟨i0, hi, hz0, hz1, hz2⟩ := info_parts Tryz.infoSlot
  have HI := Lib.hid hi
  have HZ0 := Lib.hid hz0
  have HZ1 := Lib.hid hz1
  have HZ2 := Lib.hid hz2
  clear hi hz0 hz1 hz2
  rcases h.1 with ⟨rfl, rfl⟩ | ⟨c, rfl⟩
  · clear h
    have hq : ∀ W, (binOp BinOp.eql 45 (.slice none 0 0) (.slice none 0 0)).run Tryz.prog W = .ok (.bool true) W := fun _ => by kernel_rfl
    go_enter Tryz.func39, Tryz.ntmps39
    go_wp2_with fail
    go_ret
    exact ⟨_, rfl, OwnSl.nil _ _, Upd.refl _ _⟩
  · have HX := Lib.hid h.2
    clear h
    have hq : ∀ W, (binOp BinOp.eql 45 (.slice (some ⟨b, 0, none⟩) xs.length c) (.slice none 0 0)).run Tryz.prog W = .ok (.bool false) W := fun _ => by kernel_rfl
    go_enter Tryz.func39, Tryz.ntmps39
    go_wp2_with (at_builtin; refine stop_here ?_)
    refine Hid.mk ?_
    have hrow : (w.alloc (.cells #[] 44)).ownsRow w.heap.size 44 2 (.slice (some ⟨w.heap.size, 0, none⟩) 0 0) 0 [] :=
      ⟨by simp, .inr ⟨w.heap.size, 0, #[], rfl, Nat.le_refl _, heap_alloc_new _ _, by omega, by simp [maxLen], by simp, by simp⟩⟩
    have hsrc : SrcV (w.alloc (.cells #[] 44)) (.slice (some ⟨b, 0, none⟩) xs.length c) xs.length (slcells xs) :=
      SltV.src (fun i hi => ⟨((Upd.refl [] w).alloc _).cell (HX.out i hi).1 (by simp), ((Upd.refl [] w).alloc _).cell (HX.out i hi).2 (by simp)⟩)
    refine (wpList_append_src rfl _ _ 45 rfl w.heap.size 44 i0 (.agg #[.bool false, .int .i64 0]) 2 16 Tryz.underlying45 HI.out HZ0.out HZ1.out HZ2.out rfl (by decide) _ _ _ rfl hrow _ xs.length (slcells xs) rfl hsrc (slcells_len _) (slcells_one _) (by unfold maxLen; omega) (by omega) (by simp) ?_)
    intro v' w6 hown hgr _
    have hu := ((Upd.refl [] w).alloc (.cells #[] 44)).grown hgr (fun q hq => .inr (by injection hq with hq; exact Nat.le_of_eq hq))
    rw [Nat.zero_add, List.nil_append] at hown
    have HO : Hid (OwnSl w6 w.heap.size v' xs) := hown
    have HU := Lib.hid hu
    obtain ⟨p2, c2, rfl⟩ := HO.out.shape
    clear hown hgr hu hrow hsrc
    go_wp2_with fail
    go_ret
    exact ⟨_, rfl, HO.out, HU.out⟩
end Go.Proofs.YtopojeanbpokaaaGreatDoor

/-! A stack of frames: Top, Local. -/
/-! A stack of frames: Top, Local. -/
namespace Go.Proofs.YtopojeanbpokaaaGreatDoor
open Go.RowKit

section
variable {W0 w : World} {sb ib : Nat} {p : Prg} {ss : List Lk} {n0 n : Int} {cv mv : Value} {limit words : Int} {lv : Value}
theorem topP_none {w : World} {B : Nat} {lv : Value} {vs : List FrV} (h : FrsAt w B lv [] vs) : topP lv ([] : List Fr).length = .pointer none := by
  obtain ⟨p1, c1, rfl⟩ := h.shape
  unfold topP
  cases p1 with
  | none => rfl
  | some a => rfl
/-- The frame on top. -/
theorem top_at {w : World} {B : Nat} {lv : Value} {fs : List Fr} {vs : List FrV} {f : Fr} {v : FrV} (h : FrsAt w B lv (fs ++ [f]) (vs ++ [v])) (hl : vs.length = fs.length) : ∃ g c, lv = .slice (some ⟨g, 0, none⟩) (fs.length + 1) c ∧ topP lv (fs ++ [f]).length = .pointer (some ⟨g, fs.length * 4, none⟩) ∧ B ≤ g ∧
    w.cell? ⟨g, fs.length * 4, none⟩ = some (.int .i64 f.m) ∧ w.cell? ⟨g, fs.length * 4 + 1, none⟩ = some (.int .i64 f.pc) ∧ w.cell? ⟨g, fs.length * 4 + 2, none⟩ = some v.lv ∧ w.cell? ⟨g, fs.length * 4 + 3, none⟩ = some v.sv := by
  obtain ⟨g, c, rfl, g0, g1, g2, g3⟩ := h.cell (i := fs.length) (by simp)
  have e1 : (fs ++ [f]).getD fs.length default = f := getD_snoc_eq _ _ _
  have e2 : (vs ++ [v]).getD fs.length default = v := by rw [← hl]; exact getD_snoc_eq _ _ _
  rw [e1] at g0 g1
  rw [e2] at g2 g3
  have hlen : (fs ++ [f]).length = fs.length + 1 := by simp
  refine ⟨g, c, by rw [hlen], by unfold topP; simp, ?_, g0, g1, g2, g3⟩
  rcases h.row.2 with ⟨h1, h2⟩ | ⟨g1, c1, cur, h1, h2, _⟩
  · cases h1
  · injection h1 with e1
    injection e1 with e1
    injection e1 with e1
    omega

set_option maxRecDepth 100000 in
set_option maxHeartbeats 1000000 in
theorem stopt_none (vs : List FrV) (h : StkAt W0 w sb ib p ss n0 n cv mv limit words lv [] vs) :
    Calls Tryz.prog 26 #[.pointer (some ⟨sb, 0, none⟩)] w fun e w' => e = .returned (.tuple #[.int .i64 0, .int .i64 0, .bool false]) ∧ Upd [] w w' := by
  have HTP := Lib.hid (stop_any W0 w sb ib p ss n0 n cv mv limit words lv [] vs h)
  rw [topP_none h.frs] at HTP
  clear h
  go_enter Tryz.func26, Tryz.ntmps26
  go_wp2_with fail
  refine HTP.out.mono ?_
  rintro e w1 ⟨rfl, hu⟩
  have HU := Lib.hid hu
  clear hu HTP
  go_wp2_with fail
  go_ret3
  exact ⟨rfl, HU.out⟩
set_option maxRecDepth 100000 in
set_option maxHeartbeats 1000000 in
theorem stopt_any (fs : List Fr) (vs : List FrV) (f : Fr) (v : FrV) (h : StkAt W0 w sb ib p ss n0 n cv mv limit words lv (fs ++ [f]) (vs ++ [v])) :
    Calls Tryz.prog 26 #[.pointer (some ⟨sb, 0, none⟩)] w fun e w' => e = .returned (.tuple #[.int .i64 f.m, .int .i64 f.pc, .bool true]) ∧ Upd [] w w' := by
  have HTP := Lib.hid (stop_any W0 w sb ib p ss n0 n cv mv limit words lv _ _ h)
  have hl : vs.length = fs.length := by have := h.frs.len; simpa using this
  obtain ⟨g, c, rfl, ht, hg, g0, g1, g2, g3⟩ := top_at h.frs hl
  rw [ht] at HTP
  clear h ht hl g2 g3
  go_enter Tryz.func26, Tryz.ntmps26
  go_wp2_with fail
  refine HTP.out.mono ?_
  rintro e w1 ⟨rfl, hu⟩
  have HU := Lib.hid hu
  have g0 := hu.cell g0 (by simp)
  have g1 := hu.cell g1 (by simp)
  clear hu HTP
  go_wp2_with fail
  go_quiet (fail)
  go_wp2_with fail
  go_ret3
  exact ⟨rfl, HU.out.drewN _⟩

set_option maxRecDepth 100000 in
set_option maxHeartbeats 1000000 in
theorem slocal_none (vs : List FrV) (i : Int) (h : StkAt W0 w sb ib p ss n0 n cv mv limit words lv [] vs) :
    Calls Tryz.prog 27 #[.pointer (some ⟨sb, 0, none⟩), .int .i64 i] w fun e w' => e = .returned (.tuple #[.agg #[.bool false, .int .i64 0], .bool false]) ∧ Upd [] w w' := by
  have hu0 := (Upd.refl [] w).alloc (.cells #[.bool false, .int .i64 0] 44)
  have hb0 := heap_alloc_new w (.cells #[.bool false, .int .i64 0] 44)
  have h2 := h.same hu0
  have HTP := Lib.hid (stop_any W0 _ sb ib p ss n0 n cv mv limit words lv [] vs h2)
  rw [topP_none h.frs] at HTP
  have HU0 := Lib.hid hu0
  have HB0 := Lib.hid hb0
  clear h h2 hu0 hb0
  go_enter Tryz.func27, Tryz.ntmps27
  go_upto_region 1 with fail
  generalize w.alloc (.cells #[.bool false, .int .i64 0] 44) = w0 at HU0 HB0 HTP ⊢
  go_wp2_with fail
  refine HTP.out.mono ?_
  rintro e w1 ⟨rfl, hu⟩
  have hb1 := hu.heap HB0.out (by simp)
  have HU := Lib.hid (HU0.out.trans hu)
  have c0 : w1.cell? ⟨w.heap.size, 0, none⟩ = some (.bool false) := by rw [cell_of hb1]; rfl
  have c1 : w1.cell? ⟨w.heap.size, 1, none⟩ = some (.int .i64 0) := by rw [cell_of hb1]; rfl
  have f0 := froz_of hb1 0
  have f1 := froz_of hb1 1
  have k2 := heap_setCell (heap_setCell hb1 0 (.bool false)) 1 (.int .i64 0)
  have d0 := cell_of k2 0
  have d1 := cell_of k2 1
  simp at d0 d1
  have HUE : Hid (Upd [] w ((w1.setCell ⟨w.heap.size, 0, none⟩ (.bool false)).setCell ⟨w.heap.size, 1, none⟩ (.int .i64 0))) := (HU.out.setCell (.inr (Nat.le_refl _)) _).setCell (.inr (Nat.le_refl _)) _
  clear hu HTP k2 hb1
  go_wp2_with fail
  refine bodyPost_ret (v := .tuple #[.agg #[.bool false, .int .i64 0], .bool false]) (by simp [results, Tryz.results27, go_sem, d0, d1]) rfl ?_
  exact ⟨rfl, HUE.out⟩

/-- What a local is. -/
def locV (f : Fr) (i : Int) : Value := if 0 ≤ i ∧ i < (f.loc.length : Int) then .tuple #[.agg #[.bool (f.loc.getD i.toNat default).ref, .int .i64 (f.loc.getD i.toNat default).n], .bool true] else .tuple #[.agg #[.bool false, .int .i64 0], .bool false]
set_option maxRecDepth 100000 in
set_option maxHeartbeats 2000000 in
theorem slocal_any (fs : List Fr) (vs : List FrV) (f : Fr) (v : FrV) (i : Int) (h : StkAt W0 w sb ib p ss n0 n cv mv limit words lv (fs ++ [f]) (vs ++ [v])) :
    Calls Tryz.prog 27 #[.pointer (some ⟨sb, 0, none⟩), .int .i64 i] w fun e w' => e = .returned (locV f i) ∧ Upd [] w w' := by
  have hl : vs.length = fs.length := by have := h.frs.len; simpa using this
  have hu0 := (Upd.refl [] w).alloc (.cells #[.bool false, .int .i64 0] 44)
  have hb0 := heap_alloc_new w (.cells #[.bool false, .int .i64 0] 44)
  have h2 := h.same hu0
  have HTP := Lib.hid (stop_any W0 _ sb ib p ss n0 n cv mv limit words lv _ _ h2)
  obtain ⟨g, c, rfl, ht, hg, g0, g1, g2, g3⟩ := top_at h2.frs hl
  rw [ht] at HTP
  have hos : OwnSl (w.alloc (.cells #[.bool false, .int .i64 0] 44)) (sb + 1) v.lv f.loc := by
    have h3 := h2.frs.loc fs.length (by simp)
    rw [getD_snoc_eq] at h3
    rw [show (vs ++ [v]).getD fs.length default = v by rw [← hl]; exact getD_snoc_eq _ _ _] at h3
    exact h3
  obtain ⟨b, hread, _⟩ := hos.read
  have HRD := Lib.hid hread
  have HU0 := Lib.hid hu0
  have HB0 := Lib.hid hb0
  obtain ⟨lp, lc, hlv⟩ := hread.form
  rw [hlv] at g2
  have HLV := Lib.hid hlv
  clear h h2 hu0 hb0 hos hread ht hl g0 g1 g3 hlv
  go_enter Tryz.func27, Tryz.ntmps27
  go_upto_region 1 with fail
  generalize w.alloc (.cells #[.bool false, .int .i64 0] 44) = w0 at HU0 HB0 HTP HRD g2 ⊢
  go_wp2_with fail
  refine HTP.out.mono ?_
  rintro e w1 ⟨rfl, hu⟩
  have hb1 := hu.heap HB0.out (by simp)
  have g2 := hu.cell g2 (by simp)
  have HR1 := Lib.hid (HRD.out.upd hu (.inr (by simp)))
  have HU := Lib.hid (HU0.out.trans hu)
  have c0 : w1.cell? ⟨w.heap.size, 0, none⟩ = some (.bool false) := by rw [cell_of hb1]; rfl
  have c1 : w1.cell? ⟨w.heap.size, 1, none⟩ = some (.int .i64 0) := by rw [cell_of hb1]; rfl
  have f0 := froz_of hb1 0
  have f1 := froz_of hb1 1
  have HB1 := Lib.hid hb1
  clear hu HTP hb1 HRD HU0 HB0
  by_cases hin : 0 ≤ i ∧ i < (f.loc.length : Int)
  · obtain ⟨q, rfl⟩ := Int.eq_ofNat_of_zero_le hin.1
    have hq : q < f.loc.length := by omega
    have HE : Hid (locV f (q : Int) = .tuple #[.agg #[.bool (f.loc.getD q default).ref, .int .i64 (f.loc.getD q default).n], .bool true]) := by
      show _ = _
      unfold locV
      rw [if_pos hin, Int.toNat_natCast]
    obtain ⟨z0, z1⟩ := HR1.out.2 q hq
    have hlp : lp = some ⟨b, 0, none⟩ := by
      rcases HR1.out.1 with ⟨h1, h2⟩ | ⟨c9, h1⟩
      · rw [h2] at hq; simp at hq
      · rw [HLV.out] at h1
        injection h1 with h1
    subst hlp
    have e1 : decide ((q : Int) < 0) = false := decide_eq_false (by omega)
    have e2 : decide (f.loc.length ≤ q) = false := decide_eq_false (by omega)
    generalize f.loc.getD q default = x at z0 z1 HE
    have k2 := heap_setCell (heap_setCell HB1.out 0 (.bool x.ref)) 1 (.int .i64 x.n)
    have d0 := cell_of k2 0
    have d1 := cell_of k2 1
    simp at d0 d1
    have HUE : Hid (Upd [] w ((w1.setCell ⟨w.heap.size, 0, none⟩ (.bool x.ref)).setCell ⟨w.heap.size, 1, none⟩ (.int .i64 x.n))) := (HU.out.setCell (.inr (Nat.le_refl _)) _).setCell (.inr (Nat.le_refl _)) _
    clear k2 hin
    go_wp2_with fail
    refine bodyPost_ret (v := .tuple #[.agg #[.bool x.ref, .int .i64 x.n], .bool true]) (by simp [results, Tryz.results27, go_sem, d0, d1]) rfl ?_
    exact ⟨by rw [HE.out], HUE.out⟩
  · have HE : Hid (locV f i = .tuple #[.agg #[.bool false, .int .i64 0], .bool false]) := by
      show _ = _
      unfold locV
      rw [if_neg hin]
    have k2 := heap_setCell (heap_setCell HB1.out 0 (.bool false)) 1 (.int .i64 0)
    have d0 := cell_of k2 0
    have d1 := cell_of k2 1
    simp at d0 d1
    have HUE : Hid (Upd [] w ((w1.setCell ⟨w.heap.size, 0, none⟩ (.bool false)).setCell ⟨w.heap.size, 1, none⟩ (.int .i64 0))) := (HU.out.setCell (.inr (Nat.le_refl _)) _).setCell (.inr (Nat.le_refl _)) _
    clear k2
    by_cases h0 : i < 0
    · clear hin
      go_wp2_with fail
      refine bodyPost_ret (v := .tuple #[.agg #[.bool false, .int .i64 0], .bool false]) (by simp [results, Tryz.results27, go_sem, d0, d1]) rfl ?_
      exact ⟨by rw [HE.out], HUE.out⟩
    · have h1 : (f.loc.length : Int) ≤ i := by omega
      clear hin
      go_wp2_with fail
      refine bodyPost_ret (v := .tuple #[.agg #[.bool false, .int .i64 0], .bool false]) (by simp [results, Tryz.results27, go_sem, d0, d1]) rfl ?_
      exact ⟨by rw [HE.out], HUE.out⟩
end
end Go.Proofs.YtopojeanbpokaaaGreatDoor

/-! A stack of frames: At. -/
/-! A stack of frames: At. -/
namespace Go.Proofs.YtopojeanbpokaaaGreatDoor
open Go.RowKit

section
variable {W0 w : World} {sb ib : Nat} {p : Prg} {ss : List Lk} {n0 n : Int} {cv mv : Value} {limit words : Int} {lv : Value}
theorem OwnSl.from {w : World} {B B' : Nat} {v : Value} {xs : List Slt} (h : OwnSl w B v xs) (hB : B' ≤ B) : OwnSl w B' v xs := row_base h hB

set_option maxRecDepth 100000 in
set_option maxHeartbeats 1000000 in
theorem sat_out (fs : List Fr) (vs : List FrV) (i : Int) (h : StkAt W0 w sb ib p ss n0 n cv mv limit words lv fs vs) (hi : i < 0 ∨ (fs.length : Int) ≤ i) :
    Calls Tryz.prog 28 #[.pointer (some ⟨sb, 0, none⟩), .int .i64 i] w fun e w' => e = .returned (.tuple #[.int .i64 0, .int .i64 0, .slice none 0 0, .slice none 0 0, .bool false]) ∧ Upd [] w w' := by
  obtain ⟨p1, c1, rfl⟩ := h.frs.shape
  have m5 : w.cell? ⟨sb, 5, none⟩ = some (.slice p1 fs.length c1) := by rw [cell_of h.box]; rfl
  clear h
  go_enter Tryz.func28, Tryz.ntmps28
  by_cases h0 : i < 0
  · clear hi
    go_wp2_with fail
    refine bodyPost_ret (v := .tuple #[.int .i64 0, .int .i64 0, .slice none 0 0, .slice none 0 0, .bool false]) (by simp [results, Tryz.results28, go_sem]) rfl ?_
    exact ⟨rfl, Upd.refl _ _⟩
  · have h1 : (fs.length : Int) ≤ i := by omega
    clear hi
    go_wp2_with fail
    refine bodyPost_ret (v := .tuple #[.int .i64 0, .int .i64 0, .slice none 0 0, .slice none 0 0, .bool false]) (by simp [results, Tryz.results28, go_sem]) rfl ?_
    exact ⟨rfl, Upd.refl _ _⟩

set_option maxRecDepth 100000 in
set_option maxHeartbeats 2000000 in
theorem sat_any (fs : List Fr) (vs : List FrV) (i : Nat) (h : StkAt W0 w sb ib p ss n0 n cv mv limit words lv fs vs) (hi : i < fs.length) (hl1 : (fs.getD i default).loc.length ≤ 1000) (hl2 : (fs.getD i default).stk.length ≤ 1000) :
    Calls Tryz.prog 28 #[.pointer (some ⟨sb, 0, none⟩), .int .i64 i] w fun e w' => ∃ u1 u2, e = .returned (.tuple #[.int .i64 (fs.getD i default).m, .int .i64 (fs.getD i default).pc, u1, u2, .bool true]) ∧ OwnSl w' w.heap.size u1 (fs.getD i default).loc ∧ OwnSl w' w.heap.size u2 (fs.getD i default).stk ∧ Upd [] w w' := by
  obtain ⟨g, c, rfl, g0, g1, g2, g3⟩ := h.frs.cell hi
  have ho1 := h.frs.loc i hi
  have ho2 := h.frs.stk i hi
  have m5 : w.cell? ⟨sb, 5, none⟩ = some (.slice (some ⟨g, 0, none⟩) fs.length c) := by rw [cell_of h.box]; rfl
  generalize fs.getD i default = f at g0 g1 ho1 ho2 hl1 hl2 ⊢
  generalize vs.getD i default = v at g2 g3 ho1 ho2
  obtain ⟨v1, v2⟩ := v
  simp only at g2 g3 ho1 ho2
  obtain ⟨b1, hr1, _⟩ := ho1.read
  obtain ⟨b2, hr2, _⟩ := ho2.read
  obtain ⟨p1, c1, rfl⟩ := hr1.form
  obtain ⟨p2, c2, rfl⟩ := hr2.form
  have e1 : decide ((i : Int) < 0) = false := decide_eq_false (by omega)
  have e2 : decide (fs.length ≤ i) = false := decide_eq_false (by omega)
  have hal := (Upd.refl [] w).alloc (.cells #[.int .i64 f.m, .int .i64 f.pc, .slice p1 f.loc.length c1, .slice p2 f.stk.length c2] 110)
  have hb := heap_alloc_new w (.cells #[.int .i64 f.m, .int .i64 f.pc, .slice p1 f.loc.length c1, .slice p2 f.stk.length c2] 110)
  have HR1 := Lib.hid (hr1.upd hal (.inr (by simp)))
  have HR2 := Lib.hid (hr2.upd hal (.inr (by simp)))
  have HU := Lib.hid hal
  clear h ho1 ho2 hr1 hr2
  go_enter Tryz.func28, Tryz.ntmps28
  go_upto_region 4 with fail
  generalize w.alloc (.cells #[.int .i64 f.m, .int .i64 f.pc, .slice p1 f.loc.length c1, .slice p2 f.stk.length c2] 110) = w1 at hal hb HR1 HR2 HU ⊢
  have k0 : w1.cell? ⟨w.heap.size, 0, none⟩ = some (.int .i64 f.m) := by rw [cell_of hb]; rfl
  have k1 : w1.cell? ⟨w.heap.size, 1, none⟩ = some (.int .i64 f.pc) := by rw [cell_of hb]; rfl
  have k2 : w1.cell? ⟨w.heap.size, 2, none⟩ = some (.slice p1 f.loc.length c1) := by rw [cell_of hb]; rfl
  have k3 : w1.cell? ⟨w.heap.size, 3, none⟩ = some (.slice p2 f.stk.length c2) := by rw [cell_of hb]; rfl
  have hdr := (Upd.refl [] w1).drew
  have d0 := hdr.cell k0 (by simp)
  have d1 := hdr.cell k1 (by simp)
  have d2 := hdr.cell k2 (by simp)
  have d3 := hdr.cell k3 (by simp)
  have HC1 := Lib.hid (sclone_any _ b1 f.loc w1.drew (HR1.out.upd hdr (.inr (by simp))) (by omega))
  have HC2 := Lib.hid (fun W (hu : Upd [] w1.drew W) => sclone_any _ b2 f.stk W ((HR2.out.upd hdr (.inr (by simp))).upd hu (.inr (by simp))) (by omega))
  clear hdr hal hb g0 g1 g2 g3 m5
  go_region_held3 (fun W => W.cell? ⟨w.heap.size, 0, none⟩ = some (.int .i64 f.m) ∧ W.cell? ⟨w.heap.size, 1, none⟩ = some (.int .i64 f.pc) ∧ W.cell? ⟨w.heap.size, 2, none⟩ = some (.slice p1 f.loc.length c1) ∧ W.cell? ⟨w.heap.size, 3, none⟩ = some (.slice p2 f.stk.length c2))
    (first | exact ⟨b0, b1', b2', b3⟩ | exact ⟨a0, a1, a2, a3⟩ | exact ⟨d0, d1, d2, d3⟩ | exact ⟨k0, k1, k2, k3⟩)
    (first
      | (go_at_call 39; refine (HC2.out _ HUA.out).mono ?_; rintro e wb ⟨u2, rfl, hob, hub⟩; have b0 := hub.cell a0 (by simp); have b1' := hub.cell a1 (by simp); have b2' := hub.cell a2 (by simp); have b3 := hub.cell a3 (by simp); have HOB := Lib.hid hob; have HUB := Lib.hid hub; clear hob hub)
      | (go_at_call 39; refine HC1.out.mono ?_; rintro e wa ⟨u1, rfl, hoa, hua⟩; have a0 := hua.cell d0 (by simp); have a1 := hua.cell d1 (by simp); have a2 := hua.cell d2 (by simp); have a3 := hua.cell d3 (by simp); have HOA := Lib.hid hoa; have HUA := Lib.hid hua; clear hoa hua))
  rename_i hheld
  clear hheld
  go_wp2_with fail
  refine bodyPost_ret (v := .tuple #[.int .i64 f.m, .int .i64 f.pc, u1, u2, .bool true]) (by simp [results, Tryz.results28, go_sem]) rfl ?_
  have hs1 := HU.out.size
  have hs2 : w1.drew.heap.size = w1.heap.size := rfl
  have hs3 := HUA.out.size
  exact ⟨u1, u2, rfl, (HOA.out.upd HUB.out (by simp)).from (by omega), HOB.out.from (by omega), ((HU.out.drew).trans HUA.out).trans HUB.out⟩
end
end Go.Proofs.YtopojeanbpokaaaGreatDoor

/-! A stack of frames: the frame on top is turned. -/
/-! A stack of frames: the frame on top is turned. -/
namespace Go.Proofs.YtopojeanbpokaaaGreatDoor
open Go.RowKit

/-- One frame's cells. -/
def fr4 (f : Fr) (v : FrV) : List Value := [.int .i64 f.m, .int .i64 f.pc, v.lv, v.sv]
theorem frow_set {w : World} {B g c : Nat} {fs : List Fr} {vs : List FrV} {f f' : Fr} {v v' : FrV} (hl : vs.length = fs.length) (h : w.ownsRow B 110 4 (.slice (some ⟨g, 0, none⟩) (fs.length + 1) c) (fs.length + 1) (frcells (fs ++ [f]) (vs ++ [v]))) (k : Nat) (hk : k < 4) (u : Value) (hc : (fr4 f v).set k u = fr4 f' v') :
    (w.setCell ⟨g, fs.length * 4 + k, none⟩ u).ownsRow B 110 4 (.slice (some ⟨g, 0, none⟩) (fs.length + 1) c) (fs.length + 1) (frcells (fs ++ [f']) (vs ++ [v'])) := by
  obtain ⟨h0, h1⟩ := h
  refine ⟨by rw [frcells_len _ _ (by simp [hl])]; simp, ?_⟩
  rcases h1 with ⟨h1, _⟩ | ⟨g1, c1, cur, h1, h2, h3, h4, h5, h6, h7⟩
  · cases h1
  · injection h1 with e1 _ e3
    injection e1 with e1
    injection e1 with e1
    subst e1 e3
    refine .inr ⟨g, c, cur.setIfInBounds (fs.length * 4 + k) u, rfl, h2, heap_setCell h3 _ _, h4, h5, by simpa using h6, ?_⟩
    rw [Array.toList_setIfInBounds, List.take_set, h7, frcells_snoc _ _ _ _ hl, frcells_snoc _ _ _ _ hl, List.set_append_right _ _ (by rw [frcells_len _ _ hl]; omega), frcells_len _ _ hl, show fs.length * 4 + k - fs.length * 4 = k by omega]
    have h8 : [Value.int .i64 (f.m : Int), .int .i64 f.pc, v.lv, v.sv].set k u = [Value.int .i64 (f'.m : Int), .int .i64 f'.pc, v'.lv, v'.sv] := hc
    rw [h8]
/-- The frames' rows' blocks are not the frames' own. -/
theorem FrsAt.own_ne {w : World} {B g n c : Nat} {fs : List Fr} {vs : List FrV} (h : FrsAt w B (.slice (some ⟨g, 0, none⟩) n c) fs vs) {i : Nat} (hi : i < fs.length) : ¬ (vs.getD i default).has g := by
  rcases h.row.2 with ⟨h1, _⟩ | ⟨g1, c1, cur, h1, h2, h3, _⟩
  · cases h1
  · injection h1 with e1
    injection e1 with e1
    injection e1 with e1
    subst e1
    have ne : ∀ {v : Value} {xs : List Slt}, OwnSl w B v xs → v.ownBlock ≠ some g := fun ho hb => by
      rcases ho.2 with ⟨h4, _⟩ | ⟨g4, c4, cur4, h4, _, h5, _⟩
      · rw [h4] at hb; simp [Value.ownBlock] at hb
      · rw [h4] at hb
        simp only [Value.ownBlock, Option.some.injEq] at hb
        subst hb
        rw [h3] at h5
        injection h5 with h5
        injection h5 with _ h5 _
        exact absurd h5 (by decide)
    rintro (hb | hb)
    · exact ne (h.loc i hi) hb
    · exact ne (h.stk i hi) hb
/-- The frame on top gets another place. -/
theorem FrsAt.jump {w : World} {B g c : Nat} {fs : List Fr} {vs : List FrV} {f : Fr} {v : FrV} (h : FrsAt w B (.slice (some ⟨g, 0, none⟩) (fs.length + 1) c) (fs ++ [f]) (vs ++ [v])) (pc : Int) :
    FrsAt (w.setCell ⟨g, fs.length * 4 + 1, none⟩ (.int .i64 pc)) B (.slice (some ⟨g, 0, none⟩) (fs.length + 1) c) (fs ++ [{ f with pc := pc }]) (vs ++ [v]) := by
  have hl : vs.length = fs.length := by have := h.len; simpa using this
  have hlen : (fs ++ [f]).length = fs.length + 1 := by simp
  have hu : Upd [g] w (w.setCell ⟨g, fs.length * 4 + 1, none⟩ (.int .i64 pc)) := (Upd.refl [g] w).setCell (.inl (by simp)) _
  have hrow := h.row
  rw [hlen] at hrow
  have gi : ∀ i, i < fs.length + 1 → ((fs ++ [{ f with pc := pc }]).getD i default).loc = ((fs ++ [f]).getD i default).loc ∧ ((fs ++ [{ f with pc := pc }]).getD i default).stk = ((fs ++ [f]).getD i default).stk := fun i hi => by
    by_cases e : i < fs.length
    · rw [getD_snoc_lt _ _ _ _ e, getD_snoc_lt _ _ _ _ e]; exact ⟨rfl, rfl⟩
    · have e2 : i = fs.length := by omega
      subst e2
      rw [getD_snoc_eq, getD_snoc_eq]; exact ⟨rfl, rfl⟩
  have off : ∀ i, i < (fs ++ [f]).length → (∀ k, ((vs ++ [v]).getD i default).lv.ownBlock = some k → k ∉ [g]) ∧ (∀ k, ((vs ++ [v]).getD i default).sv.ownBlock = some k → k ∉ [g]) := fun i hi => by
    have h1 := h.own_ne hi
    refine ⟨fun k hk hm => ?_, fun k hk hm => ?_⟩
    · rw [List.mem_singleton] at hm
      subst hm
      exact h1 (.inl hk)
    · rw [List.mem_singleton] at hm
      subst hm
      exact h1 (.inr hk)
  refine ⟨?_, by simp [hl], fun i hi => ?_, fun i hi => ?_, fun i hi => h.two i (by simpa using hi), fun i j hi hj => h.apart i j (by simpa using hi) (by simpa using hj)⟩
  · have hlen2 : (fs ++ [({ f with pc := pc } : Fr)]).length = fs.length + 1 := by simp
    rw [hlen2]
    exact frow_set hl hrow 1 (by omega) _ rfl
  · have hi2 : i < (fs ++ [f]).length := by simpa using hi
    rw [(gi i (by simpa using hi)).1]
    exact (h.loc i hi2).upd hu (off i hi2).1
  · have hi2 : i < (fs ++ [f]).length := by simpa using hi
    rw [(gi i (by simpa using hi)).2]
    exact (h.stk i hi2).upd hu (off i hi2).2

theorem InfoAt.no_str {w : World} {ib : Nat} {p : Prg} {ss : List Lk} {n : Int} (h : InfoAt w ib p ss n) (o : Nat) (s : ByteArray) : w.cell? ⟨ib, o, none⟩ ≠ some (.string s) := by
  obtain ⟨cv, mv, lv, hb, ⟨_, _, rfl, _⟩, ⟨_, _, rfl, _⟩, ⟨_, _, rfl, _⟩⟩ := h
  intro h0
  rw [cell_of hb] at h0
  match o with
  | 0 => cases h0
  | 1 => cases h0
  | 2 => cases h0
  | 3 => cases h0
  | o + 4 => simp at h0
/-- A method of the stack's own program. -/
theorem StkAt.meth {W0 w : World} {sb ib : Nat} {p : Prg} {ss : List Lk} {n0 n : Int} {cv mv : Value} {limit words : Int} {lv : Value} {fs : List Fr} {vs : List FrV} (h : StkAt W0 w sb ib p ss n0 n cv mv limit words lv fs vs) {k : Nat} (hk : k < p.ms.length) : ∃ b o mc ka kc, mv = .slice (some ⟨b, o, none⟩) p.ms.length mc ∧ w.cell? ⟨b, o + k * 4, none⟩ = some (.string (p.ms.getD k default).params) ∧ w.cell? ⟨b, o + k * 4 + 1, none⟩ = some (.string (p.ms.getD k default).locals) ∧ w.cell? ⟨b, o + k * 4 + 2, none⟩ = some (.string (p.ms.getD k default).ret) ∧ w.cell? ⟨b, o + k * 4 + 3, none⟩ = some (.slice ka (p.ms.getD k default).code.length kc) := by
  obtain ⟨a, mc, rfl, _, _, hx⟩ := h.meths
  obtain ⟨b, o, rfl, _, q0, q1, q2, kv, q3, ka, kc, rfl, _⟩ := hx k hk
  have hb : b ∉ [ib] := fun hm => by
    rw [List.mem_singleton] at hm
    subst hm
    exact h.info.base.no_str _ _ q0
  exact ⟨b, o, mc, ka, kc, rfl, h.info.upd.cell q0 hb, h.info.upd.cell q1 hb, h.info.upd.cell q2 hb, h.info.upd.cell q3 hb⟩

set_option maxRecDepth 100000 in
set_option maxHeartbeats 2000000 in
theorem sjump_own (W0 w : World) (sb ib : Nat) (p : Prg) (ss : List Lk) (n0 n : Int) (cv mv : Value) (limit words : Int) (lv : Value) (fs : List Fr) (vs : List FrV) (f : Fr) (v : FrV) (pc : Int) (h : StkAt W0 w sb ib p ss n0 n cv mv limit words lv (fs ++ [f]) (vs ++ [v])) (hf : f.m < p.ms.length) (hpc : 0 ≤ pc ∧ pc < ((p.ms.getD f.m default).code.length : Int)) :
    Calls Tryz.prog 14 #[.pointer (some ⟨sb, 0, none⟩), .int .i64 pc] w fun e w' => e = .returned (.bool true) ∧ StkAt W0 w' sb ib p ss n0 n cv mv limit words lv (fs ++ [{ f with pc := pc }]) (vs ++ [v]) ∧ ∃ g, lv.ownBlock = some g ∧ sb < g ∧ Upd [g] w w' := by
  have hl : vs.length = fs.length := by have := h.frs.len; simpa using this
  have HTP := Lib.hid (stop_any W0 w sb ib p ss n0 n cv mv limit words lv _ _ h)
  obtain ⟨g, c, rfl, ht, hg, g0, g1, g2, g3⟩ := top_at h.frs hl
  rw [ht] at HTP
  obtain ⟨b, o, mc, ka, kc, rfl, q0, q1, q2, q3⟩ := h.meth hf
  have H := Lib.hid h
  have m2 : w.cell? ⟨sb, 2, none⟩ = some (.slice (some ⟨b, o, none⟩) p.ms.length mc) := by rw [cell_of h.box]; rfl
  have hgl : ∃ z, w.heap[g]? = some z := by
    have h1 := World.block_lt_of_cell? _ _ g0
    exact ⟨_, Array.getElem?_eq_getElem h1⟩
  obtain ⟨q, rfl⟩ := Int.eq_ofNat_of_zero_le hpc.1
  have hq : q < (p.ms.getD f.m default).code.length := by omega
  generalize (p.ms.getD f.m default).code.length = L at q3 hq
  clear h ht hl g2 g3 q0 q1 q2 hgl hpc
  have e1 : decide ((q : Int) < 0) = false := decide_eq_false (by omega)
  have e2 : decide (L ≤ q) = false := decide_eq_false (by omega)
  have e3 : decide ((L : Int) ≤ (q : Int)) = false := decide_eq_false (by omega)
  go_enter Tryz.func14, Tryz.ntmps14
  go_wp2_with fail
  refine HTP.out.mono ?_
  rintro e w1 ⟨rfl, hu⟩
  have H1 := Lib.hid (H.out.same hu)
  have HU := Lib.hid hu
  have g0 := hu.cell g0 (by simp)
  have g1 := hu.cell g1 (by simp)
  have q3 := hu.cell q3 (by simp)
  have m2 := hu.cell m2 (by simp)
  clear hu HTP H
  go_upto_region 2 with fail
  go_quiet (fail)
  have hud := (Upd.refl [] w1).drewN nq
  have H2 := Lib.hid (H1.out.same hud)
  have HU2 := Lib.hid (HU.out.trans hud)
  have g1 := hud.cell g1 (by simp)
  clear hud H1 HU g0 q3 m2
  generalize w1.drewN nq = w2 at H2 HU2 g1 ⊢
  obtain ⟨cur, hcur⟩ : ∃ cur, w2.heap[g]? = some (.cells cur 110) := by
    rcases H2.out.frs.row.2 with ⟨h1, _⟩ | ⟨g4, c4, cur, h1, h2, h3, _⟩
    · cases h1
    · injection h1 with e1
      injection e1 with e1
      injection e1 with e1
      subst e1
      exact ⟨cur, h3⟩
  have f1 := froz_of hcur (fs.length * 4 + 1)
  have hu : Upd [g] w2 (w2.setCell ⟨g, fs.length * 4 + 1, none⟩ (.int .i64 q)) := (Upd.refl [g] w2).setCell (.inl (by simp)) _
  have HV := Lib.hid hu
  have hat := H2.out.at_
  have HST : Hid (StkAt W0 (w2.setCell ⟨g, fs.length * 4 + 1, none⟩ (.int .i64 q)) sb ib p ss n0 n cv (.slice (some ⟨b, o, none⟩) p.ms.length mc) limit words (.slice (some ⟨g, 0, none⟩) (fs.length + 1) c) (fs ++ [{ f with pc := (q : Int) }]) (vs ++ [v])) :=
    ⟨hu.heap H2.out.box (by simp; omega), H2.out.frs.jump q, H2.out.info.keep hu (fun x hx => by rw [List.mem_singleton] at hx; omega), H2.out.meths, H2.out.at_⟩
  clear hu hcur hat
  go_wp2_with fail
  go_ret
  exact ⟨rfl, HST.out, g, rfl, by omega, (HU2.out.mono (T := [g]) (by simp)).trans HV.out⟩
theorem sjump_any (W0 w : World) (sb ib : Nat) (p : Prg) (ss : List Lk) (n0 n : Int) (cv mv : Value) (limit words : Int) (lv : Value) (fs : List Fr) (vs : List FrV) (f : Fr) (v : FrV) (pc : Int) (h : StkAt W0 w sb ib p ss n0 n cv mv limit words lv (fs ++ [f]) (vs ++ [v])) (hf : f.m < p.ms.length) (hpc : 0 ≤ pc ∧ pc < ((p.ms.getD f.m default).code.length : Int)) :
    Calls Tryz.prog 14 #[.pointer (some ⟨sb, 0, none⟩), .int .i64 pc] w fun e w' => e = .returned (.bool true) ∧ StkAt W0 w' sb ib p ss n0 n cv mv limit words lv (fs ++ [{ f with pc := pc }]) (vs ++ [v]) ∧ ∃ g, sb < g ∧ Upd [g] w w' :=
  (sjump_own W0 w sb ib p ss n0 n cv mv limit words lv fs vs f v pc h hf hpc).mono fun _ _ ⟨h1, h2, g, _, h3, h4⟩ => ⟨h1, h2, g, h3, h4⟩
end Go.Proofs.YtopojeanbpokaaaGreatDoor

/-! A stack of frames: a value is laid on the frame on top. -/
/-! A stack of frames: a value is laid on the frame on top. -/
namespace Go.Proofs.YtopojeanbpokaaaGreatDoor
open Go.RowKit

theorem FrsAt.lay {w w2 : World} {B g c : Nat} {fs : List Fr} {vs : List FrV} {f : Fr} {v : FrV} {o : Obj} {sv' : Value} (x : Slt) (h : FrsAt w B (.slice (some ⟨g, 0, none⟩) (fs.length + 1) c) (fs ++ [f]) (vs ++ [v]))
    (hown : w2.ownsRow B 44 2 sv' (f.stk.length + 1) (slcells f.stk ++ [.bool x.ref, .int .i64 x.n])) (hgr : (w.alloc o).grownBy w2 v.sv.ownBlock) (hob : sv'.ownBlock = v.sv.ownBlock ∨ sv'.ownBlock = some (w.alloc o).heap.size) :
    FrsAt (w2.setCell ⟨g, fs.length * 4 + 3, none⟩ sv') B (.slice (some ⟨g, 0, none⟩) (fs.length + 1) c) (fs ++ [{ f with stk := f.stk ++ [x] }]) (vs ++ [⟨v.lv, sv'⟩]) ∧ Upd (v.sv.ownBlock.toList ++ [g]) w (w2.setCell ⟨g, fs.length * 4 + 3, none⟩ sv') := by
  have hl : vs.length = fs.length := by have := h.len; simpa using this
  have hlen : (fs ++ [f]).length = fs.length + 1 := by simp
  have hlen2 : (fs ++ [({ f with stk := f.stk ++ [x] } : Fr)]).length = fs.length + 1 := by simp
  have hsz : (w.alloc o).heap.size = w.heap.size + 1 := by simp
  have hu2 : Upd v.sv.ownBlock.toList w w2 := ((Upd.refl _ w).alloc o).grown hgr (fun q hq => Or.inl (Option.mem_toList.2 hq))
  have hu3 : Upd [g] w2 (w2.setCell ⟨g, fs.length * 4 + 3, none⟩ sv') := (Upd.refl [g] w2).setCell (.inl (by simp)) _
  have hgw : g < w.heap.size := by
    rcases h.row.2 with ⟨h1, _⟩ | ⟨g1, c1, cur, h1, h2, h3, _⟩
    · cases h1
    · injection h1 with e1
      injection e1 with e1
      injection e1 with e1
      subst e1
      exact lt_of_heap h3
  have vlast : (vs ++ [v]).getD fs.length default = v := by rw [← hl]; exact getD_snoc_eq _ _ _
  have flast : (fs ++ [f]).getD fs.length default = f := getD_snoc_eq _ _ _
  have vlast2 : (vs ++ [(⟨v.lv, sv'⟩ : FrV)]).getD fs.length default = ⟨v.lv, sv'⟩ := by rw [← hl]; exact getD_snoc_eq _ _ _
  have flast2 : (fs ++ [({ f with stk := f.stk ++ [x] } : Fr)]).getD fs.length default = { f with stk := f.stk ++ [x] } := getD_snoc_eq _ _ _
  have vi : ∀ {i}, i < fs.length → (vs ++ [v]).getD i default = vs.getD i default ∧ (vs ++ [(⟨v.lv, sv'⟩ : FrV)]).getD i default = vs.getD i default := fun hi => ⟨getD_snoc_lt _ _ _ _ (by omega), getD_snoc_lt _ _ _ _ (by omega)⟩
  have fi : ∀ {i}, i < fs.length → (fs ++ [f]).getD i default = fs.getD i default ∧ (fs ++ [({ f with stk := f.stk ++ [x] } : Fr)]).getD i default = fs.getD i default := fun hi => ⟨getD_snoc_lt _ _ _ _ hi, getD_snoc_lt _ _ _ _ hi⟩
  have hng : ¬ v.has g := by
    have h1 := h.own_ne (i := fs.length) (by simp)
    rwa [vlast] at h1
  have hlo := h.loc fs.length (by simp)
  have hst := h.stk fs.length (by simp)
  rw [vlast, flast] at hlo hst
  have lt1 : ∀ b, v.lv.ownBlock = some b → b < w.heap.size := fun b hb => (World.ownsRow.lt hlo b hb).2
  have hsg : sv'.ownBlock ≠ some g := fun e => by
    rcases hob with h1 | h1
    · exact hng (.inr (h1.symm.trans e))
    · have h2 := h1.symm.trans e
      injection h2 with h2
      omega
  -- a row that is neither the laid one nor the frames'
  have keep : ∀ {u : Value} {xs : List Slt}, OwnSl w B u xs → (∀ b, u.ownBlock = some b → v.sv.ownBlock ≠ some b) → u.ownBlock ≠ some g → OwnSl (w2.setCell ⟨g, fs.length * 4 + 3, none⟩ sv') B u xs := fun ho h1 h2 => by
    refine (ho.upd hu2 (fun k hk hm => h1 k hk (Option.mem_toList.1 hm))).upd hu3 (fun k hk hm => ?_)
    rw [List.mem_singleton] at hm
    subst hm
    exact h2 hk
  have two := h.two fs.length (by simp)
  rw [vlast] at two
  have ap : ∀ {i}, i < fs.length → ∀ b, (vs.getD i default).has b → ¬ v.has b := fun {i} hi b hb => by
    have h1 := h.apart i fs.length (by simp; omega) (by simp) (by omega) b
    rw [(vi hi).1, vlast] at h1
    exact h1 hb
  have own_lt : ∀ {i}, i < fs.length → ∀ b, (vs.getD i default).has b → b < w.heap.size := fun {i} hi b hb => by
    have h1 := h.loc i (by simp; omega)
    have h2 := h.stk i (by simp; omega)
    rw [(vi hi).1] at h1 h2
    rcases hb with hb | hb
    · exact (World.ownsRow.lt h1 b hb).2
    · exact (World.ownsRow.lt h2 b hb).2
  -- the laid row's block: the old one, or a new one
  have nb : ∀ b, sv'.ownBlock = some b → v.sv.ownBlock = some b ∨ w.heap.size < b := fun b hb => by
    rcases hob with h1 | h1
    · exact .inl (h1.symm.trans hb)
    · have h2 := h1.symm.trans hb
      injection h2 with h2
      exact .inr (by omega)
  refine ⟨⟨?_, by simp [hl], fun i hi => ?_, fun i hi => ?_, fun i hi b hb => ?_, fun i j hi hj hij b hb => ?_⟩, ?_⟩
  · rw [hlen2]
    have hrow := h.row
    rw [hlen] at hrow
    refine frow_set hl (row_upd hrow hu2 (fun k hk hm => ?_)) 3 (by omega) _ rfl
    simp only [Value.ownBlock, Option.some.injEq] at hk
    subst hk
    exact hng (.inr (Option.mem_toList.1 hm))
  · by_cases e : i < fs.length
    · rw [(vi e).2, (fi e).2]
      have h1 := h.loc i (by simp; omega)
      rw [(vi e).1, (fi e).1] at h1
      have h2 := h.own_ne (i := i) (by simp; omega)
      rw [(vi e).1] at h2
      exact keep h1 (fun b hb hb2 => ap e b (.inl hb) (.inr hb2)) (fun hb => h2 (.inl hb))
    · have e2 : i = fs.length := by simp at hi; omega
      subst e2
      rw [vlast2, flast2]
      exact keep hlo (fun b hb => two b hb) (fun hb => hng (.inl hb))
  · by_cases e : i < fs.length
    · rw [(vi e).2, (fi e).2]
      have h1 := h.stk i (by simp; omega)
      rw [(vi e).1, (fi e).1] at h1
      have h2 := h.own_ne (i := i) (by simp; omega)
      rw [(vi e).1] at h2
      exact keep h1 (fun b hb hb2 => ap e b (.inr hb) (.inr hb2)) (fun hb => h2 (.inr hb))
    · have e2 : i = fs.length := by simp at hi; omega
      subst e2
      rw [vlast2, flast2]
      have hfin : OwnSl w2 B sv' (f.stk ++ [x]) := by
        unfold OwnSl
        rw [List.length_append, slcells_app]
        exact hown
      exact hfin.upd hu3 (fun k hk hm => by
        rw [List.mem_singleton] at hm
        subst hm
        exact hsg hk)
  · by_cases e : i < fs.length
    · rw [(vi e).2] at hb ⊢
      have h1 := h.two i (by simp; omega)
      rw [(vi e).1] at h1
      exact h1 b hb
    · have e2 : i = fs.length := by simp at hi; omega
      subst e2
      rw [vlast2] at hb ⊢
      intro h1
      rcases nb b h1 with h2 | h2
      · exact two b hb h2
      · have := lt1 b hb; omega
  · have key : ∀ {i}, i < fs.length → ∀ b, (vs.getD i default).has b → ¬ (⟨v.lv, sv'⟩ : FrV).has b := fun {i} hi b hb hb2 => by
      rcases hb2 with h1 | h1
      · exact ap hi b hb (.inl h1)
      · rcases nb b h1 with h2 | h2
        · exact ap hi b hb (.inr h2)
        · have := own_lt hi b hb; omega
    by_cases e : i < fs.length
    · rw [(vi e).2] at hb
      by_cases e2 : j < fs.length
      · rw [(vi e2).2]
        have h1 := h.apart i j (by simp; omega) (by simp; omega) hij b
        rw [(vi e).1, (vi e2).1] at h1
        exact h1 hb
      · have e3 : j = fs.length := by simp at hj; omega
        subst e3
        rw [vlast2]
        exact key e b hb
    · have e3 : i = fs.length := by simp at hi; omega
      subst e3
      rw [vlast2] at hb
      have e2 : j < fs.length := by simp at hj; omega
      rw [(vi e2).2]
      exact fun hb2 => key e2 b hb2 hb
  · exact (hu2.mono (fun _ h _ => List.mem_append_left _ h)).trans (hu3.mono (fun _ h _ => List.mem_append_right _ h))
end Go.Proofs.YtopojeanbpokaaaGreatDoor

/-! A stack of frames: Lay. -/
/-! A stack of frames: Lay. -/
namespace Go.Proofs.YtopojeanbpokaaaGreatDoor
open Go.RowKit

theorem slot_new (w : World) (x : Slt) : ∀ j u, [Value.bool x.ref, .int .i64 x.n][j]? = some u → (w.alloc (.cells #[.bool x.ref, .int .i64 x.n] 44)).cell? ((⟨w.heap.size, 0, none⟩ : Addr).add j) = some u := by
  intro j u hj
  rw [Addr.add_lit, Nat.zero_add, cell_of (heap_alloc_new w _)]
  simpa using hj

/-- Behind the append the frames' row is as it was. -/
theorem lay_cell {w w2 : World} {B g c : Nat} {fs : List Fr} {vs : List FrV} {f : Fr} {v : FrV} {o : Obj} (h : FrsAt w B (.slice (some ⟨g, 0, none⟩) (fs.length + 1) c) (fs ++ [f]) (vs ++ [v])) (hgr : (w.alloc o).grownBy w2 v.sv.ownBlock) :
    ∃ cur, w2.heap[g]? = some (.cells cur 110) ∧ w2.cell? ⟨g, fs.length * 4 + 3, none⟩ = some v.sv := by
  have hl : vs.length = fs.length := by have := h.len; simpa using this
  have hu2 : Upd v.sv.ownBlock.toList w w2 := ((Upd.refl _ w).alloc o).grown hgr (fun q hq => Or.inl (Option.mem_toList.2 hq))
  have hng : g ∉ v.sv.ownBlock.toList := fun hm => by
    have h1 := h.own_ne (i := fs.length) (by simp)
    rw [show (vs ++ [v]).getD fs.length default = v by rw [← hl]; exact getD_snoc_eq _ _ _] at h1
    exact h1 (.inr (Option.mem_toList.1 hm))
  obtain ⟨g', c', hlv, _, _, g0, g1, g2, g3⟩ := top_at h hl
  injection hlv with e1
  injection e1 with e1
  injection e1 with e1
  subst e1
  rcases h.row.2 with ⟨h1, _⟩ | ⟨g4, c4, cur, h1, h2, h3, _⟩
  · cases h1
  · injection h1 with e1
    injection e1 with e1
    injection e1 with e1
    subst e1
    exact ⟨cur, hu2.heap h3 hng, hu2.cell g3 hng⟩

set_option maxRecDepth 100000 in
set_option maxHeartbeats 4000000 in
theorem slay_own (W0 w : World) (sb ib : Nat) (p : Prg) (ss : List Lk) (n0 n : Int) (cv mv : Value) (limit words : Int) (lv : Value) (fs : List Fr) (vs : List FrV) (f : Fr) (v : FrV) (x : Slt) (h : StkAt W0 w sb ib p ss n0 n cv mv limit words lv (fs ++ [f]) (vs ++ [v])) (hs : f.stk.length < 12) (hx : x.ref = true → 0 ≤ x.n) :
    Calls Tryz.prog 16 #[.pointer (some ⟨sb, 0, none⟩), .agg #[.bool x.ref, .int .i64 x.n]] w fun e w' => e = .returned (.bool true) ∧ ∃ sv', StkAt W0 w' sb ib p ss n0 n cv mv limit words lv (fs ++ [{ f with stk := f.stk ++ [x] }]) (vs ++ [⟨v.lv, sv'⟩]) ∧ (sv'.ownBlock = v.sv.ownBlock ∨ ∃ b, sv'.ownBlock = some b ∧ w.heap.size ≤ b) ∧ ∃ g, lv.ownBlock = some g ∧ ∃ T, (∀ t ∈ T, sb < t ∧ (v.sv.ownBlock = some t ∨ t = g)) ∧ Upd T w w' := by
  obtain ⟨i0, hi, hz0, hz1, hz2⟩ := info_parts Tryz.infoSlot
  have HI := Lib.hid hi
  have HZ0 := Lib.hid hz0
  have HZ1 := Lib.hid hz1
  have HZ2 := Lib.hid hz2
  clear hi hz0 hz1 hz2
  have hl : vs.length = fs.length := by have := h.frs.len; simpa using this
  have hu0 := (Upd.refl [] w).alloc (.cells #[.bool x.ref, .int .i64 x.n] 44)
  have hb0 := heap_alloc_new w (.cells #[.bool x.ref, .int .i64 x.n] 44)
  have h2 := h.same hu0
  have HTP := Lib.hid (stop_any W0 _ sb ib p ss n0 n cv mv limit words lv _ _ h2)
  obtain ⟨g, c, rfl, ht, hg, g0, g1, g2, g3⟩ := top_at h2.frs hl
  rw [ht] at HTP
  have H2 := Lib.hid h2
  have hos : OwnSl (w.alloc (.cells #[.bool x.ref, .int .i64 x.n] 44)) (sb + 1) v.sv f.stk := by
    have h3 := h2.frs.stk fs.length (by simp)
    rw [getD_snoc_eq] at h3
    rw [show (vs ++ [v]).getD fs.length default = v by rw [← hl]; exact getD_snoc_eq _ _ _] at h3
    exact h3
  obtain ⟨lvv, svv⟩ := v
  simp only at g2 g3 hos
  obtain ⟨sp, sc, rfl⟩ := hos.shape
  have HU0 := Lib.hid hu0
  have HB0 := Lib.hid hb0
  have HOS := Lib.hid hos
  clear h h2 hu0 hb0 ht hl g0 g1 g2 hos
  have e1 : decide (12 ≤ f.stk.length) = false := decide_eq_false (by omega)
  go_enter Tryz.func16, Tryz.ntmps16
  go_upto_region 1 with fail
  generalize w.alloc (.cells #[.bool x.ref, .int .i64 x.n] 44) = w0 at HU0 HB0 HTP HOS H2 g3 ⊢
  go_wp2_with fail
  refine HTP.out.mono ?_
  rintro e w1 ⟨rfl, hu⟩
  have hb1 := hu.heap HB0.out (by simp)
  have H1 := Lib.hid (H2.out.same hu)
  have HOS1 := Lib.hid (HOS.out.upd hu (by simp))
  have g3 := hu.cell g3 (by simp)
  have HU := Lib.hid (HU0.out.trans hu)
  have c0 : w1.cell? ⟨w.heap.size, 0, none⟩ = some (.bool x.ref) := by rw [cell_of hb1]; rfl
  have c1 : w1.cell? ⟨w.heap.size, 1, none⟩ = some (.int .i64 x.n) := by rw [cell_of hb1]; rfl
  clear hu HTP H2 HOS HB0 HU0 hb1
  obtain ⟨r, xn⟩ := x
  simp only at hx c0 c1 ⊢
  have hgate : (r = true ∧ decide (xn < 0) = false) ∨ r = false := by
    cases r with
    | true => exact .inl ⟨rfl, decide_eq_false (by have := hx rfl; omega)⟩
    | false => exact .inr rfl
  rcases hgate with ⟨rfl, e2⟩ | rfl
  · go_upto_region 4 with fail
    have hdr := (Upd.refl [] w1).drew
    have hal := (Upd.refl [] w1.drew).alloc (.cells #[.bool true, .int .i64 xn] 44)
    have dc0 := hdr.cell c0 (by simp)
    have dc1 := hdr.cell c1 (by simp)
    have dg3 := hdr.cell g3 (by simp)
    have ag3 := hal.cell dg3 (by simp)
    have ac0 := hal.cell dc0 (by simp)
    have ac1 := hal.cell dc1 (by simp)
    have bl := (Upd.refl [] w1).alloc (.cells #[.bool true, .int .i64 xn] 44)
    have bg3 := bl.cell g3 (by simp)
    have bc0 := bl.cell c0 (by simp)
    have bc1 := bl.cell c1 (by simp)
    clear bl
    have HROW : Hid ((w1.drew.alloc (.cells #[.bool true, .int .i64 xn] 44)).ownsRow (sb + 1) 44 2 (.slice sp f.stk.length sc) f.stk.length (slcells f.stk)) := row_upd HOS1.out (hdr.trans hal) (by simp)
    have HD1 := Lib.hid (H1.out.same hdr)
    have hsbl : sb < w1.heap.size := lt_of_heap H1.out.box
    have HUd := Lib.hid (HU.out.trans hdr)
    clear hdr hal H1 HU HOS1
    go_region_law (refine step_append_own_at rfl (.tmp 31) (.tmp 33) 45 rfl (sb + 1) 44 i0 (.agg #[.bool false, .int .i64 0]) 2 16 Tryz.underlying45 HI.out HZ0.out HZ1.out HZ2.out rfl (by decide) (.slice sp f.stk.length sc) f.stk.length (slcells f.stk) rfl HROW.out ⟨w1.heap.size, 0, none⟩ 1 1 [.bool true, .int .i64 xn] rfl rfl (slot_new w1.drew ⟨true, xn⟩) (by simp [Value.oneCell']) (by unfold maxLen; omega) (by omega) (by simp; omega) ?_; intro v' w6 hown' hgrow hat; obtain ⟨gn, cn, rfl⟩ := ownsRow_succ hown'; obtain ⟨hfr6, hup6⟩ := FrsAt.lay ⟨true, xn⟩ HD1.out.frs hown' hgrow hat; obtain ⟨cur6, hcur6⟩ := lay_cell HD1.out.frs hgrow; have z3 := hcur6.2; have fz := froz_of hcur6.1 (fs.length * 4 + 3); have HF6 := Lib.hid hfr6; have HP6 := Lib.hid hup6; have HAT6 := Lib.hid hat; clear hown' hgrow hat hfr6 hup6 hcur6)
    all_goals
      go_wp2_with fail
      go_ret
      have hat := HD1.out.at_
      have hT : ∀ t ∈ (Value.slice sp f.stk.length sc).ownBlock.toList ++ [g], sb < t := fun t ht => by
        rcases List.mem_append.1 ht with ht | ht
        · have := (World.ownsRow.lt HROW.out t (Option.mem_toList.1 ht)).1
          omega
        · rw [List.mem_singleton] at ht
          omega
      have hnew := HAT6.out
      have hszw := HUd.out.size
      exact ⟨rfl, _, ⟨HP6.out.heap HD1.out.box (fun hm => by have := hT _ hm; omega), HF6.out, HD1.out.info.keep HP6.out (fun t ht => by have := hT t ht; omega), HD1.out.meths, HD1.out.at_⟩, hnew.imp id (fun h => ⟨_, h, by simp at hszw ⊢; omega⟩), g, rfl, (Value.slice sp f.stk.length sc).ownBlock.toList ++ [g], fun t ht => ⟨hT t ht, (List.mem_append.1 ht).imp Option.mem_toList.1 List.mem_singleton.1⟩, (HUd.out.mono (fun _ h _ => by cases h)).trans HP6.out⟩
  · go_upto_region 4 with fail
    have hdr := (Upd.refl [] w1).drew
    have hal := (Upd.refl [] w1.drew).alloc (.cells #[.bool false, .int .i64 xn] 44)
    have dc0 := hdr.cell c0 (by simp)
    have dc1 := hdr.cell c1 (by simp)
    have dg3 := hdr.cell g3 (by simp)
    have ag3 := hal.cell dg3 (by simp)
    have ac0 := hal.cell dc0 (by simp)
    have ac1 := hal.cell dc1 (by simp)
    have bl := (Upd.refl [] w1).alloc (.cells #[.bool false, .int .i64 xn] 44)
    have bg3 := bl.cell g3 (by simp)
    have bc0 := bl.cell c0 (by simp)
    have bc1 := bl.cell c1 (by simp)
    clear bl
    have HROW : Hid ((w1.drew.alloc (.cells #[.bool false, .int .i64 xn] 44)).ownsRow (sb + 1) 44 2 (.slice sp f.stk.length sc) f.stk.length (slcells f.stk)) := row_upd HOS1.out (hdr.trans hal) (by simp)
    have HD1 := Lib.hid (H1.out.same hdr)
    have hsbl : sb < w1.heap.size := lt_of_heap H1.out.box
    have HUd := Lib.hid (HU.out.trans hdr)
    clear hdr hal H1 HU HOS1
    go_region_law (refine step_append_own_at rfl (.tmp 31) (.tmp 33) 45 rfl (sb + 1) 44 i0 (.agg #[.bool false, .int .i64 0]) 2 16 Tryz.underlying45 HI.out HZ0.out HZ1.out HZ2.out rfl (by decide) (.slice sp f.stk.length sc) f.stk.length (slcells f.stk) rfl HROW.out ⟨w1.heap.size, 0, none⟩ 1 1 [.bool false, .int .i64 xn] rfl rfl (slot_new w1.drew ⟨false, xn⟩) (by simp [Value.oneCell']) (by unfold maxLen; omega) (by omega) (by simp; omega) ?_; intro v' w6 hown' hgrow hat; obtain ⟨gn, cn, rfl⟩ := ownsRow_succ hown'; obtain ⟨hfr6, hup6⟩ := FrsAt.lay ⟨false, xn⟩ HD1.out.frs hown' hgrow hat; obtain ⟨cur6, hcur6⟩ := lay_cell HD1.out.frs hgrow; have z3 := hcur6.2; have fz := froz_of hcur6.1 (fs.length * 4 + 3); have HF6 := Lib.hid hfr6; have HP6 := Lib.hid hup6; have HAT6 := Lib.hid hat; clear hown' hgrow hat hfr6 hup6 hcur6)
    all_goals
      go_wp2_with fail
      go_ret
      have hat := HD1.out.at_
      have hT : ∀ t ∈ (Value.slice sp f.stk.length sc).ownBlock.toList ++ [g], sb < t := fun t ht => by
        rcases List.mem_append.1 ht with ht | ht
        · have := (World.ownsRow.lt HROW.out t (Option.mem_toList.1 ht)).1
          omega
        · rw [List.mem_singleton] at ht
          omega
      have hnew := HAT6.out
      have hszw := HUd.out.size
      exact ⟨rfl, _, ⟨HP6.out.heap HD1.out.box (fun hm => by have := hT _ hm; omega), HF6.out, HD1.out.info.keep HP6.out (fun t ht => by have := hT t ht; omega), HD1.out.meths, HD1.out.at_⟩, hnew.imp id (fun h => ⟨_, h, by simp at hszw ⊢; omega⟩), g, rfl, (Value.slice sp f.stk.length sc).ownBlock.toList ++ [g], fun t ht => ⟨hT t ht, (List.mem_append.1 ht).imp Option.mem_toList.1 List.mem_singleton.1⟩, (HUd.out.mono (fun _ h _ => by cases h)).trans HP6.out⟩
theorem slay_any (W0 w : World) (sb ib : Nat) (p : Prg) (ss : List Lk) (n0 n : Int) (cv mv : Value) (limit words : Int) (lv : Value) (fs : List Fr) (vs : List FrV) (f : Fr) (v : FrV) (x : Slt) (h : StkAt W0 w sb ib p ss n0 n cv mv limit words lv (fs ++ [f]) (vs ++ [v])) (hs : f.stk.length < 12) (hx : x.ref = true → 0 ≤ x.n) :
    Calls Tryz.prog 16 #[.pointer (some ⟨sb, 0, none⟩), .agg #[.bool x.ref, .int .i64 x.n]] w fun e w' => e = .returned (.bool true) ∧ ∃ sv', StkAt W0 w' sb ib p ss n0 n cv mv limit words lv (fs ++ [{ f with stk := f.stk ++ [x] }]) (vs ++ [⟨v.lv, sv'⟩]) ∧ ∃ T, (∀ t ∈ T, sb < t) ∧ Upd T w w' :=
  (slay_own W0 w sb ib p ss n0 n cv mv limit words lv fs vs f v x h hs hx).mono fun _ _ ⟨h1, sv', h2, _, _, _, T, h3, h4⟩ => ⟨h1, sv', h2, T, fun t ht => (h3 t ht).1, h4⟩
end Go.Proofs.YtopojeanbpokaaaGreatDoor
