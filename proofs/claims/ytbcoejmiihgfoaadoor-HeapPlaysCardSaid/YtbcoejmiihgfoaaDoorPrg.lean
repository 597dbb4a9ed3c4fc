/- Programs as data, and what a program's value reads as. -/
import Derived.Test.YtbcoejmiihgfoaaDoorLib
namespace Go.Proofs.YtbcoejmiihgfoaaDoor
open Go.RowKit

/-- A slice value reads as these strings, which lie in block b from o on. -/
def ClsAt (w : World) (v : Value) (b o : Nat) (cs : List ByteArray) : Prop :=
 ((v = .slice none 0 0 ∧ cs = []) ∨ ∃ x cap, v = .slice (some x) cs.length cap ∧ (cs = [] ∨ x = ⟨b, o, none⟩)) ∧ ∀ i, i < cs.length → w.cell? ⟨b, o + i, none⟩ = some (.string (cs.getD i ByteArray.empty))

theorem ClsAt.upd {w w' : World} {v : Value} {b o : Nat} {cs : List ByteArray} {S : List Nat} (h : ClsAt w v b o cs) (hu : Upd S w w') (hb : b ∉ S) : ClsAt w' v b o cs :=
 ⟨h.1, fun i hi => hu.cell (h.2 i hi) hb⟩

theorem ClsAt.shape {w : World} {v : Value} {b o : Nat} {cs : List ByteArray} (h : ClsAt w v b o cs) : ∃ a cap, v = .slice a cs.length cap := by
 rcases h.1 with ⟨hv, ha⟩ | ⟨x, cap, hv, _⟩
 ·exact ⟨none, 0, by rw [hv, ha]; rfl⟩
 ·exact ⟨_, _, hv⟩

theorem byte_eq (fs : ByteArray) (j : Nat) (c : UInt8) (h : j < fs.size) : ((((fs[j]'h).toNat : Nat) : Int) == ((c.toNat : Nat) : Int)) = decide (fs.get! j = c) := by
 have e : fs.get! j = fs[j]'h := by
  obtain ⟨d⟩ := fs
  exact getElem!_pos d j h
 rw [e, Bool.eq_iff_iff]
 simp only [beq_iff_eq, decide_eq_true_eq, Int.natCast_inj, UInt8.toNat_inj]

/-- An instruction. -/
structure Ins where
 op : Int
 a : Int
 b : Int
 n : Int
deriving Inhabited
/-- A method. -/
structure Meth where
 params : ByteArray
 locals : ByteArray
 ret : ByteArray
 code : List Ins
instance : Inhabited Meth := ⟨⟨ByteArray.empty, ByteArray.empty, ByteArray.empty, []⟩⟩
/-- A program. -/
structure Prg where
 cs : List ByteArray
 ms : List Meth

def Ins.bd (i : Ins) : Prop := (-9223372036854775808 ≤ i.op ∧ i.op ≤ 9223372036854775807) ∧ (-9223372036854775808 ≤ i.a ∧ i.a ≤ 9223372036854775807) ∧ (-9223372036854775808 ≤ i.b ∧ i.b ≤ 9223372036854775807) ∧ (-9223372036854775808 ≤ i.n ∧ i.n ≤ 9223372036854775807)

/-- The cells of an instruction. -/
def InsAt (w : World) (b o : Nat) (x : Ins) : Prop :=
 w.cell? ⟨b, o, none⟩ = some (.int .i64 x.op) ∧ w.cell? ⟨b, o + 1, none⟩ = some (.int .i64 x.a) ∧ w.cell? ⟨b, o + 2, none⟩ = some (.int .i64 x.b) ∧ w.cell? ⟨b, o + 3, none⟩ = some (.int .i64 x.n)

/-- A slice value reads as this code. -/
def CodeAt (w : World) (v : Value) (xs : List Ins) : Prop :=
 ∃ a cap, v = .slice a xs.length cap ∧ xs.length ≤ cap ∧ cap ≤ maxLen ∧ ∀ i, i < xs.length → ∃ b o, a = some ⟨b, o, none⟩ ∧ (xs.getD i default).bd ∧ InsAt w b (o + i * 4) (xs.getD i default)

/-- The cells of a method. -/
def MethAt (w : World) (b o : Nat) (m : Meth) : Prop :=
 w.cell? ⟨b, o, none⟩ = some (.string m.params) ∧ w.cell? ⟨b, o + 1, none⟩ = some (.string m.locals) ∧ w.cell? ⟨b, o + 2, none⟩ = some (.string m.ret) ∧ ∃ v, w.cell? ⟨b, o + 3, none⟩ = some v ∧ CodeAt w v m.code

def Meth.sz (m : Meth) : Prop := m.params.size ≤ maxLen ∧ m.locals.size ≤ maxLen ∧ m.ret.size ≤ maxLen

/-- A slice value reads as these methods. -/
def MethsAt (w : World) (v : Value) (ms : List Meth) : Prop :=
 ∃ a cap, v = .slice a ms.length cap ∧ ms.length ≤ cap ∧ cap ≤ maxLen ∧ ∀ i, i < ms.length → ∃ b o, a = some ⟨b, o, none⟩ ∧ (ms.getD i default).sz ∧ MethAt w b (o + i * 4) (ms.getD i default)

/-- A slice value reads as these classes. -/
def ClassAt (w : World) (v : Value) (cs : List ByteArray) : Prop :=
 ∃ a cap, v = .slice a cs.length cap ∧ (a = none → cap = 0) ∧ cs.length ≤ cap ∧ cap ≤ maxLen ∧ ∀ i, i < cs.length → ∃ b o, a = some ⟨b, o, none⟩ ∧ (cs.getD i ByteArray.empty).size ≤ maxLen ∧ w.cell? ⟨b, o + i, none⟩ = some (.string (cs.getD i ByteArray.empty))

theorem InsAt.upd {w w' : World} {b o : Nat} {x : Ins} (h : InsAt w b o x) (hu : Upd [] w w') : InsAt w' b o x :=
 ⟨hu.cell h.1 (by simp), hu.cell h.2.1 (by simp), hu.cell h.2.2.1 (by simp), hu.cell h.2.2.2 (by simp)⟩
theorem CodeAt.upd {w w' : World} {v : Value} {xs : List Ins} (h : CodeAt w v xs) (hu : Upd [] w w') : CodeAt w' v xs := by
 obtain ⟨a, cap, h1, h2, h3, h4⟩ := h
 refine ⟨a, cap, h1, h2, h3, fun i hi => ?_⟩
 obtain ⟨b, o, h5, h6, h7⟩ := h4 i hi
 exact ⟨b, o, h5, h6, h7.upd hu⟩
theorem MethAt.upd {w w' : World} {b o : Nat} {m : Meth} (h : MethAt w b o m) (hu : Upd [] w w') : MethAt w' b o m := by
 obtain ⟨h1, h2, h3, v, h4, h5⟩ := h
 exact ⟨hu.cell h1 (by simp), hu.cell h2 (by simp), hu.cell h3 (by simp), v, hu.cell h4 (by simp), h5.upd hu⟩
theorem MethsAt.upd {w w' : World} {v : Value} {ms : List Meth} (h : MethsAt w v ms) (hu : Upd [] w w') : MethsAt w' v ms := by
 obtain ⟨a, cap, h1, h2, h3, h4⟩ := h
 refine ⟨a, cap, h1, h2, h3, fun i hi => ?_⟩
 obtain ⟨b, o, h5, h6, h7⟩ := h4 i hi
 exact ⟨b, o, h5, h6, h7.upd hu⟩
theorem ClassAt.upd {w w' : World} {v : Value} {cs : List ByteArray} (h : ClassAt w v cs) (hu : Upd [] w w') : ClassAt w' v cs := by
 obtain ⟨a, cap, h1, h0, h2, h3, h4⟩ := h
 refine ⟨a, cap, h1, h0, h2, h3, fun i hi => ?_⟩
 obtain ⟨b, o, h5, h6, h7⟩ := h4 i hi
 exact ⟨b, o, h5, h6, hu.cell h7 (by simp)⟩

theorem ClassAt.cls {w : World} {v : Value} {cs : List ByteArray} (h : ClassAt w v cs) : ∃ b o, ClsAt w v b o cs := by
 obtain ⟨a, cap, rfl, h0, h2, h3, h4⟩ := h
 cases cs with
 | nil =>
  cases a with
  | none =>
   obtain rfl := h0 rfl
   exact ⟨0, 0, .inl ⟨rfl, rfl⟩, by simp⟩
  | some x => exact ⟨0, 0, .inr ⟨x, cap, rfl, .inl rfl⟩, by simp⟩
 | cons c t =>
  obtain ⟨b, o, rfl, _, _⟩ := h4 0 (by simp)
  refine ⟨b, o, .inr ⟨_, cap, rfl, .inr rfl⟩, fun i hi => ?_⟩
  obtain ⟨b', o', e, _, h6⟩ := h4 i hi
  injection e with e
  injection e with e1 e2
  subst e1 e2
  exact h6

end Go.Proofs.YtbcoejmiihgfoaaDoor
