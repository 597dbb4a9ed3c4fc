/- With one instruction turned a program that may be may be, or not at that instruction (VerifyOne). -/
import Derived.Test.YtpmfbhoochogoaaDoorVerL11
import Derived.Test.YtpmfbhoochogoaaDoorMayL
/-! With one instruction turned. -/
namespace Go.Proofs.YtpmfbhoochogoaaDoor
open Go.RowKit

theorem turn_head (m : Meth) (pc : Nat) (x : Ins) (j : Nat) : headCode j (m.turn pc x) = headCode j m := by
  simp [headCode, Meth.turn]
theorem turn_ins (cs : List ByteArray) (n : Nat) (m : Meth) (pc : Nat) (x y : Ins) : insCode cs n (m.turn pc x) y = insCode cs n m y := by
  simp [insCode, Meth.turn]
theorem turn_code (m : Meth) (pc : Nat) (x : Ins) (q : Nat) (h : q ≠ pc) : (m.turn pc x).code.getD q default = m.code.getD q default := by
  simp only [Meth.turn, List.getD_eq_getElem?_getD]
  rw [List.getElem?_set_ne (by omega)]
theorem turn_mslen (p : Prg) (k pc : Nat) (x : Ins) : (p.turn k pc x).ms.length = p.ms.length := by simp [Prg.turn]
theorem turn_head2 (p : Prg) (k pc : Nat) (x : Ins) (j : Nat) : headCode j ((p.turn k pc x).ms.getD j default) = headCode j (p.ms.getD j default) := by
  rw [turn_get]
  split
  · rename_i h; obtain ⟨rfl, _⟩ := h; exact turn_head _ _ _ _
  · rfl
theorem turn_ins2 (p : Prg) (k pc : Nat) (x : Ins) (j q : Nat) (h : ¬ (j = k ∧ q = pc)) : insCode (p.turn k pc x).cs (p.turn k pc x).ms.length ((p.turn k pc x).ms.getD j default) (((p.turn k pc x).ms.getD j default).code.getD q default) = insCode p.cs p.ms.length (p.ms.getD j default) ((p.ms.getD j default).code.getD q default) := by
  rw [turn_mslen, turn_get]
  split
  · rename_i e; obtain ⟨rfl, _⟩ := e
    rw [turn_ins, turn_code _ _ _ _ (fun e => h ⟨rfl, e⟩)]
    rfl
  · rfl

theorem may_turn {p : Prg} (hp : p.Ok) {k pc : Nat} {x : Ins} {c : Int} {at_ : List Int} (h : MayIs (p.turn k pc x) c at_) (hc : c ≠ 0) : at_ = [(k : Int), (pc : Int)] := by
  have hl := turn_mslen p k pc x
  have hcs : (p.turn k pc x).cs = p.cs := rfl
  have h1 := hp.few
  have h2 := hp.one
  have h3 := hp.many
  rcases h with ⟨h, _⟩ | ⟨_, ⟨i, hi, _, h, h0, _⟩ | ⟨_, ⟨j, hj, _, ⟨h, h0, _⟩ | ⟨_, q, hq, _, h, h0, ha⟩⟩ | ⟨_, h, _⟩⟩⟩
  · rw [hl, hcs] at h; omega
  · rw [hcs] at h hi; rw [hp.cls i hi] at h; exact absurd h.symm h0
  · rw [turn_head2, hp.meth j (by omega)] at h; exact absurd h.symm h0
  · by_cases e : j = k ∧ q = pc
    · obtain ⟨rfl, rfl⟩ := e; exact ha
    · rw [turn_ins2 _ _ _ _ _ _ e, hp.ins j (by omega) q (by rw [turn_len] at hq; exact hq)] at h
      exact absurd h.symm h0
  · exact absurd h hc
end Go.Proofs.YtpmfbhoochogoaaDoor
