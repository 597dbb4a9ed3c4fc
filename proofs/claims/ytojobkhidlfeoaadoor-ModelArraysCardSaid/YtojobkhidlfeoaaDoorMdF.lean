/- What a program means, plain: what is set in an array is there, and nowhere else. -/
import Derived.Test.YtojobkhidlfeoaaDoorMdD
namespace Go.Proofs.YtojobkhidlfeoaaDoor

def setB (kv : Int × Int) : List Ins := [⟨3, 0, 0, 0⟩, ⟨1, 0, 0, kv.1⟩, ⟨1, 0, 0, kv.2⟩, ⟨30, 0, 0, 0⟩]
def outB (i : Nat) : List Ins := [⟨3, 0, 0, 0⟩, ⟨1, 0, 0, i⟩, ⟨29, 0, 0, 0⟩, ⟨35, 0, 0, 0⟩]
def arrC (n : Nat) (sets : List (Int × Int)) (q : Nat) : List Ins := [⟨1, 0, 0, n⟩, ⟨28, 0, 0, 0⟩, ⟨4, 0, 0, 0⟩] ++ (sets.flatMap setB ++ ((List.range q).flatMap outB ++ [⟨3, 0, 0, 0⟩, ⟨31, 0, 0, 0⟩]))
def arrP (n : Nat) (sets : List (Int × Int)) (q : Nat) : Prg := ⟨[], [⟨ByteArray.empty, bs [82], bs [73], arrC n sets q ++ [⟨33, 0, 0, 0⟩]⟩]⟩
/-- What the array holds. -/
def arrW (n : Nat) (sets : List (Int × Int)) : List Int := sets.foldl (fun l kv => l.set kv.1.toNat kv.2) (List.replicate n 0)
theorem setB_len (sets : List (Int × Int)) : (sets.flatMap setB).length = 4 * sets.length := by
 induction sets with
 | nil => rfl
 | cons a l ih =>
  rw [List.flatMap_cons, List.length_append, ih]
  simp only [setB, List.length_cons, List.length_nil]
  omega
theorem outB_len : ∀ q : Nat, ((List.range q).flatMap outB).length = 4 * q
 | 0 => rfl
 | q + 1 => by
  rw [List.range_succ, List.flatMap_append, List.length_append, outB_len q]
  simp only [List.flatMap_cons, List.flatMap_nil, List.append_nil, outB, List.length_cons, List.length_nil]
  omega
theorem arrC_len (n : Nat) (sets : List (Int × Int)) (q : Nat) : (arrC n sets q).length = 3 + 4 * sets.length + 4 * q + 2 := by
 unfold arrC
 rw [List.length_append, List.length_append, List.length_append, setB_len, outB_len]
 simp only [List.length_cons, List.length_nil]
 omega
theorem arrC_mem {n : Nat} {sets : List (Int × Int)} {q : Nat} {x : Ins} (h : x ∈ arrC n sets q) : (x.op = 1 ∧ x.a = 0 ∧ x.b = 0 ∧ (x.n = n ∨ (∃ kv ∈ sets, x.n = kv.1 ∨ x.n = kv.2) ∨ ∃ i : Nat, i < q ∧ x.n = i)) ∨ ((x.op = 3 ∨ x.op = 4 ∨ x.op = 28 ∨ x.op = 29 ∨ x.op = 30 ∨ x.op = 31 ∨ x.op = 35) ∧ x.a = 0 ∧ x.b = 0 ∧ x.n = 0) := by
 unfold arrC at h
 simp only [List.mem_append, List.mem_flatMap, List.mem_cons, List.not_mem_nil, or_false, List.mem_range, setB, outB] at h
 rcases h with (rfl | rfl | rfl) | ⟨kv, hkv, (rfl | rfl | rfl | rfl)⟩ | ⟨i, hi, (rfl | rfl | rfl | rfl)⟩ | (rfl | rfl)
 ·exact .inl ⟨rfl, rfl, rfl, .inl rfl⟩
 ·right; simp
 ·right; simp
 ·right; simp
 ·exact .inl ⟨rfl, rfl, rfl, .inr (.inl ⟨kv, hkv, .inl rfl⟩)⟩
 ·exact .inl ⟨rfl, rfl, rfl, .inr (.inl ⟨kv, hkv, .inr rfl⟩)⟩
 ·right; simp
 ·right; simp
 ·exact .inl ⟨rfl, rfl, rfl, .inr (.inr ⟨i, hi, rfl⟩)⟩
 ·right; simp
 ·right; simp
 ·right; simp
 ·right; simp
theorem arr_behs (n : Nat) (sets : List (Int × Int)) (q : Nat) {p : Prg} {m : Meth} (hm : m = ⟨ByteArray.empty, bs [82], bs [73], m.code⟩) : behs p m (arrC n sets q) [] = .ok [73] := by
 have key : ∀ {a b : List Ins} {s t : List UInt8}, behs p m a s = .ok t → behs p m (a ++ b) s = behs p m b t := fun h => behs_app h
 generalize m.code = c at hm
 subst hm
 have h1 : behs p ⟨ByteArray.empty, bs [82], bs [73], c⟩ [⟨1, 0, 0, n⟩, ⟨28, 0, 0, 0⟩, ⟨4, 0, 0, 0⟩] [] = .ok [] := by kernel_rfl
 have h2 : ∀ kv, behs p ⟨ByteArray.empty, bs [82], bs [73], c⟩ (setB kv) [] = .ok [] := fun kv => by kernel_rfl
 have h3 : ∀ i, behs p ⟨ByteArray.empty, bs [82], bs [73], c⟩ (outB i) [] = .ok [] := fun i => by kernel_rfl
 have h4 : behs p ⟨ByteArray.empty, bs [82], bs [73], c⟩ [⟨3, 0, 0, 0⟩, ⟨31, 0, 0, 0⟩] [] = .ok [73] := by kernel_rfl
 have h5 : ∀ l : List (Int × Int), behs p ⟨ByteArray.empty, bs [82], bs [73], c⟩ (l.flatMap setB) [] = .ok [] := by
  intro l
  induction l with
  | nil => rfl
  | cons kv l ih => rw [List.flatMap_cons, behs_app (h2 kv), ih]
 have h6 : ∀ l : List Nat, behs p ⟨ByteArray.empty, bs [82], bs [73], c⟩ (l.flatMap outB) [] = .ok [] := by
  intro l
  induction l with
  | nil => rfl
  | cons i l ih => rw [List.flatMap_cons, behs_app (h3 i), ih]
 unfold arrC
 rw [behs_app h1, behs_app (h5 _), behs_app (h6 _), h4]
theorem arr_ok {n : Nat} {sets : List (Int × Int)} {q : Nat} (hn : n < 20) (hs : sets.length ≤ 10) (hq : 3 + 4 * sets.length + 4 * q ≤ 103) (hb : ∀ kv ∈ sets, in64 kv.1 ∧ in64 kv.2) : Vf (arrP n sets q) (arrP n sets q).looks := by
 have hlen := arrC_len n sets q
 have ins : ∀ x ∈ arrC n sets q ++ [⟨33, 0, 0, 0⟩], insCode [] 1 ⟨ByteArray.empty, bs [82], bs [73], arrC n sets q ++ [⟨33, 0, 0, 0⟩]⟩ x = 0 ∧ x.bd := by
  intro x hx
  rcases List.mem_append.1 hx with h | h
  ·obtain ⟨op, a, b, k⟩ := x
   rcases arrC_mem h with ⟨h1, h2, h3, h4⟩ | ⟨h1, h2, h3, h4⟩
   ·simp only at h1 h2 h3 h4
    subst h1 h2 h3
    refine ⟨by kernel_rfl, ins_bd (by omega) ?_⟩
    rcases h4 with rfl | ⟨kv, hkv, rfl | rfl⟩ | ⟨i, hi, rfl⟩
    ·unfold in64; omega
    ·exact (hb kv hkv).1
    ·exact (hb kv hkv).2
    ·unfold in64; omega
   ·simp only at h1 h2 h3 h4
    subst h2 h3 h4
    rcases h1 with rfl | rfl | rfl | rfl | rfl | rfl | rfl <;> exact ⟨by kernel_rfl, ins_bd (by omega) in_0⟩
  ·rw [List.mem_singleton] at h
   subst h
   exact ⟨by kernel_rfl, ins_bd (by omega) in_0⟩
 refine ⟨⟨by simp [arrP], by simp [arrP], by simp [arrP], by simp [arrP], fun j hj => ?_, fun j hj q' hq' => ?_⟩, Prg.looks_of ?_, Prg.bd_of ?_⟩
 ·have hj0 : j = 0 := by simp [arrP] at hj; omega
  subst hj0
  show headCode 0 ⟨ByteArray.empty, bs [82], bs [73], arrC n sets q ++ [⟨33, 0, 0, 0⟩]⟩ = 0
  unfold headCode
  rw [if_neg, if_neg]
  ·have e1 : lettersB ByteArray.empty = true := by kernel_rfl
   have e2 : lettersB (bs [82]) = true := by kernel_rfl
   have e3 : retOk (bs [73]) := by unfold retOk; rw [bs_list]; simp
   have e4 : ByteArray.empty.toList = ([] : List UInt8) := by kernel_rfl
   simp only [e1, e2, e3, e4, bs_list, not_true, false_or]
   simp
  ·have e1 : ByteArray.empty.size = 0 := rfl
   have e2 : (bs [82]).size = 1 := rfl
   rw [e1, e2, List.length_append, hlen]
   simp only [List.length_cons, List.length_nil]
   omega
 ·have hj0 : j = 0 := by simp [arrP] at hj; omega
  subst hj0
  exact (ins _ (getD_mem hq')).1
 ·unfold Prg.lookB
  rw [List.all_eq_true]
  intro m hm
  have hm2 : m = ⟨ByteArray.empty, bs [82], bs [73], arrC n sets q ++ [⟨33, 0, 0, 0⟩]⟩ := by simpa [arrP] using hm
  obtain ⟨s, hs⟩ := straight_ok (p := arrP n sets q) (m := m) (l := arrC n sets q) (r := ⟨33, 0, 0, 0⟩) (t := [73]) (by rw [hm2]) (fun x hx => by
   rcases arrC_mem hx with h | h
   ·omega
   ·omega) rfl (arr_behs n sets q (by rw [hm2])) (by rw [hm2]; kernel_rfl)
  rw [hs]
 ·intro m hm x hx
  have hm2 : m = ⟨ByteArray.empty, bs [82], bs [73], arrC n sets q ++ [⟨33, 0, 0, 0⟩]⟩ := by simpa [arrP] using hm
  rw [hm2] at hx
  exact (ins x hx).2
/-- Where an instruction of a piece stands. -/
theorem piece_at {code pre blk post : List Ins} (h : code = pre ++ (blk ++ post)) {i k : Nat} (hi : i < blk.length) (hk : k = pre.length + i) : code.getD k default = blk.getD i default := by
 rw [h, hk, List.getD_eq_getElem?_getD, List.getElem?_append_right (by omega), List.getElem?_append_left (by omega), List.getD_eq_getElem?_getD]
 congr 2
 omega
theorem arr_code (n : Nat) (sets : List (Int × Int)) (q : Nat) (k : Nat) : (arrP n sets q).at_ 0 k = (arrC n sets q ++ [(⟨33, 0, 0, 0⟩ : Ins)]).getD k default := rfl

abbrev arrS (k : Nat) (vals : List Vl) (out : List Int) : Mc := ⟨[⟨0, k, [vr 0], []⟩], [⟨-1, vals⟩], [], 0, out, none⟩
theorem set_steps {p : Prg} {k0 : Nat} {k v : Int} {vals : List Vl} {out : List Int} (h0 : p.at_ 0 k0 = ⟨3, 0, 0, 0⟩) (h1 : p.at_ 0 (k0 + 1) = ⟨1, 0, 0, k⟩) (h2 : p.at_ 0 (k0 + 1 + 1) = ⟨1, 0, 0, v⟩) (h3 : p.at_ 0 (k0 + 1 + 1 + 1) = ⟨30, 0, 0, 0⟩) :
  Mc.steps p 4 (arrS k0 vals out) = if k < 0 ∨ (vals.length : Int) ≤ k then (⟨[⟨0, k0 + 3, [vr 0], [vr 0, vi k, vi v]⟩], [⟨-1, vals⟩], [], 0, out, some ⟨2, 3, 0, ((k0 + 3 : Nat) : Int), 0⟩⟩ : Mc) else arrS (k0 + 4) (vals.set k.toNat (vi v)) out := by
 have e1 : (arrS k0 vals out).step p = ⟨[⟨0, k0 + 1, [vr 0], [vr 0]⟩], [⟨-1, vals⟩], [], 0, out, none⟩ := go1 (x := ⟨3, 0, 0, 0⟩) h0 (by simp) (by kernel_rfl)
 have e2 : Mc.step p ⟨[⟨0, k0 + 1, [vr 0], [vr 0]⟩], [⟨-1, vals⟩], [], 0, out, none⟩ = ⟨[⟨0, k0 + 2, [vr 0], [vr 0, vi k]⟩], [⟨-1, vals⟩], [], 0, out, none⟩ := go1 (x := ⟨1, 0, 0, k⟩) h1 (by simp) (by kernel_rfl)
 have e3 : Mc.step p ⟨[⟨0, k0 + 2, [vr 0], [vr 0, vi k]⟩], [⟨-1, vals⟩], [], 0, out, none⟩ = ⟨[⟨0, k0 + 3, [vr 0], [vr 0, vi k, vi v]⟩], [⟨-1, vals⟩], [], 0, out, none⟩ := go1 (x := ⟨1, 0, 0, v⟩) h2 (by simp) (by kernel_rfl)
 have e4 : Mc.plain p ⟨[⟨0, k0 + 3, [vr 0], [vr 0, vi k, vi v]⟩], [⟨-1, vals⟩], [], 0, out, none⟩ ⟨0, k0 + 3, [vr 0], [vr 0, vi k, vi v]⟩ ⟨30, 0, 0, 0⟩ = if k < 0 ∨ (vals.length : Int) ≤ k then .trap 3 else .go [vr 0] [] [⟨-1, vals.set k.toNat (vi v)⟩] [] out := by kernel_rfl
 show Mc.step p (Mc.step p (Mc.step p (Mc.step p (arrS k0 vals out)))) = _
 rw [e1, e2, e3]
 split
 ·rename_i hc
  rw [if_pos hc] at e4
  exact trap1 (x := ⟨30, 0, 0, 0⟩) h3 (by simp) e4
 ·rename_i hc
  rw [if_neg hc] at e4
  exact go1 (x := ⟨30, 0, 0, 0⟩) h3 (by simp) e4
theorem out_steps {p : Prg} {k0 i : Nat} {vals : List Vl} {out : List Int} (h0 : p.at_ 0 k0 = ⟨3, 0, 0, 0⟩) (h1 : p.at_ 0 (k0 + 1) = ⟨1, 0, 0, i⟩) (h2 : p.at_ 0 (k0 + 1 + 1) = ⟨29, 0, 0, 0⟩) (h3 : p.at_ 0 (k0 + 1 + 1 + 1) = ⟨35, 0, 0, 0⟩) (hi : i < vals.length) :
  Mc.steps p 4 (arrS k0 vals out) = arrS (k0 + 4) vals (out ++ [(vals.getD i default).n]) := by
 have e1 : (arrS k0 vals out).step p = ⟨[⟨0, k0 + 1, [vr 0], [vr 0]⟩], [⟨-1, vals⟩], [], 0, out, none⟩ := go1 (x := ⟨3, 0, 0, 0⟩) h0 (by simp) (by kernel_rfl)
 have e2 : Mc.step p ⟨[⟨0, k0 + 1, [vr 0], [vr 0]⟩], [⟨-1, vals⟩], [], 0, out, none⟩ = ⟨[⟨0, k0 + 2, [vr 0], [vr 0, vi i]⟩], [⟨-1, vals⟩], [], 0, out, none⟩ := go1 (x := ⟨1, 0, 0, i⟩) h1 (by simp) (by kernel_rfl)
 have e3 : Mc.plain p ⟨[⟨0, k0 + 2, [vr 0], [vr 0, vi i]⟩], [⟨-1, vals⟩], [], 0, out, none⟩ ⟨0, k0 + 2, [vr 0], [vr 0, vi i]⟩ ⟨29, 0, 0, 0⟩ = if (i : Int) < 0 ∨ (vals.length : Int) ≤ i then .trap 3 else .go [vr 0] [vals.getD i default] [⟨-1, vals⟩] [] out := by kernel_rfl
 rw [if_neg (by omega)] at e3
 have e4 : Mc.step p ⟨[⟨0, k0 + 2, [vr 0], [vr 0, vi i]⟩], [⟨-1, vals⟩], [], 0, out, none⟩ = ⟨[⟨0, k0 + 3, [vr 0], [vals.getD i default]⟩], [⟨-1, vals⟩], [], 0, out, none⟩ := go1 (x := ⟨29, 0, 0, 0⟩) h2 (by simp) e3
 have e5 : Mc.step p ⟨[⟨0, k0 + 3, [vr 0], [vals.getD i default]⟩], [⟨-1, vals⟩], [], 0, out, none⟩ = arrS (k0 + 4) vals (out ++ [(vals.getD i default).n]) := go1 (x := ⟨35, 0, 0, 0⟩) h3 (by simp) (by kernel_rfl)
 show Mc.step p (Mc.step p (Mc.step p (Mc.step p (arrS k0 vals out)))) = _
 rw [e1, e2, e4, e5]

theorem arr_len {n : Nat} (sets : List (Int × Int)) : (arrW n sets).length = n := by
 have key : ∀ (l : List (Int × Int)) (a : List Int), (l.foldl (fun l kv => l.set kv.1.toNat kv.2) a).length = a.length := by
  intro l
  induction l with
  | nil => intro a; rfl
  | cons kv l ih => intro a; rw [List.foldl_cons, ih, List.length_set]
 unfold arrW
 rw [key, List.length_replicate]
theorem arr_start {n : Nat} (sets : List (Int × Int)) (q : Nat) (hn : n < 20) : Mc.steps (arrP n sets q) 3 (Mc.new (arrP n sets q) [] 0) = arrS 3 ((List.replicate n 0).map vi) [] := by
 have e0 : Mc.new (arrP n sets q) [] 0 = ⟨[⟨0, 0, [vr (-1)], []⟩], [], [], 0, [], none⟩ := by kernel_rfl
 have e1 : Mc.step (arrP n sets q) ⟨[⟨0, 0, [vr (-1)], []⟩], [], [], 0, [], none⟩ = ⟨[⟨0, 1, [vr (-1)], [vi n]⟩], [], [], 0, [], none⟩ := go1 (x := ⟨1, 0, 0, n⟩) rfl (by simp) (by kernel_rfl)
 have e2 : Mc.plain (arrP n sets q) ⟨[⟨0, 1, [vr (-1)], [vi n]⟩], [], [], 0, [], none⟩ ⟨0, 1, [vr (-1)], [vi n]⟩ ⟨28, 0, 0, 0⟩ = if (n : Int) < 0 ∨ 50 < (n : Int) then .trap 4 else .go [vr (-1)] [vr 0] [(arrP n sets q).made (-1) (n : Int).toNat] [] [] := by kernel_rfl
 rw [if_neg (by omega)] at e2
 have em : (arrP n sets q).made (-1) (n : Int).toNat = ⟨-1, (List.replicate n 0).map vi⟩ := by
  unfold Prg.made Prg.lets
  rw [if_neg (by omega), if_neg (by omega), Int.toNat_natCast, List.map_replicate, List.map_replicate]
  rfl
 rw [em] at e2
 have e3 : Mc.step (arrP n sets q) ⟨[⟨0, 1, [vr (-1)], [vi n]⟩], [], [], 0, [], none⟩ = ⟨[⟨0, 2, [vr (-1)], [vr 0]⟩], [⟨-1, (List.replicate n 0).map vi⟩], [], 0, [], none⟩ := go1 (x := ⟨28, 0, 0, 0⟩) rfl (by simp) e2
 have e4 : Mc.step (arrP n sets q) ⟨[⟨0, 2, [vr (-1)], [vr 0]⟩], [⟨-1, (List.replicate n 0).map vi⟩], [], 0, [], none⟩ = arrS 3 ((List.replicate n 0).map vi) [] := go1 (x := ⟨4, 0, 0, 0⟩) rfl (by simp) (by kernel_rfl)
 show Mc.step (arrP n sets q) (Mc.step (arrP n sets q) (Mc.step (arrP n sets q) (Mc.new (arrP n sets q) [] 0))) = _
 rw [e0, e1, e3, e4]
theorem vals_set (l : List Int) (k : Nat) (v : Int) : (l.map vi).set k (vi v) = (l.set k v).map vi := by rw [List.map_set]
theorem arrW_snoc (n : Nat) (l : List (Int × Int)) (kv : Int × Int) : arrW n (l ++ [kv]) = (arrW n l).set kv.1.toNat kv.2 := by
 unfold arrW
 rw [List.foldl_append]
 rfl
/-- Where the pieces stand. -/
theorem arr_set_at {n : Nat} {sets : List (Int × Int)} {q j : Nat} (hj : j < sets.length) {i : Nat} (hi : i < 4) : (arrP n sets q).at_ 0 (3 + 4 * j + i) = (setB (sets.getD j default)).getD i default := by
 rw [arr_code]
 have e : sets = sets.take j ++ (sets.getD j default :: sets.drop (j + 1)) := by
  conv => lhs; rw [← List.take_append_drop j sets]
  congr 1
  rw [List.drop_eq_getElem_cons hj, List.getD_eq_getElem?_getD, List.getElem?_eq_getElem hj]
  rfl
 refine piece_at (pre := [⟨1, 0, 0, n⟩, ⟨28, 0, 0, 0⟩, ⟨4, 0, 0, 0⟩] ++ (sets.take j).flatMap setB) (post := (sets.drop (j + 1)).flatMap setB ++ ((List.range q).flatMap outB ++ [⟨3, 0, 0, 0⟩, ⟨31, 0, 0, 0⟩] ++ [⟨33, 0, 0, 0⟩])) ?_ (by simpa [setB] using hi) ?_
 ·unfold arrC
  conv => lhs; rw [e]
  rw [List.flatMap_append, List.flatMap_cons]
  simp only [List.append_assoc]
 ·rw [List.length_append, setB_len, List.length_take]
  simp only [List.length_cons, List.length_nil]
  omega
theorem arr_out_at {n : Nat} {sets : List (Int × Int)} {q j : Nat} (hj : j < q) {i : Nat} (hi : i < 4) : (arrP n sets q).at_ 0 (3 + 4 * sets.length + 4 * j + i) = (outB j).getD i default := by
 rw [arr_code]
 have e : (List.range q).flatMap outB = (List.range j).flatMap outB ++ (outB j ++ ((List.range (q - j - 1)).map (fun i => j + 1 + i)).flatMap outB) := by
  rw [show q = j + (1 + (q - j - 1)) by omega, List.range_add, List.flatMap_append]
  congr 1
  rw [List.range_add, List.map_append, List.flatMap_append]
  congr 1
  ·rw [show j + (1 + (q - j - 1)) - j - 1 = q - j - 1 by omega, List.map_map]
   congr 1
   apply List.map_congr_left
   intro i _
   show j + (1 + i) = j + 1 + i
   omega
 refine piece_at (pre := [⟨1, 0, 0, n⟩, ⟨28, 0, 0, 0⟩, ⟨4, 0, 0, 0⟩] ++ (sets.flatMap setB ++ (List.range j).flatMap outB)) (post := ((List.range (q - j - 1)).map (fun i => j + 1 + i)).flatMap outB ++ ([⟨3, 0, 0, 0⟩, ⟨31, 0, 0, 0⟩] ++ [⟨33, 0, 0, 0⟩])) ?_ (by simpa [outB] using hi) ?_
 ·unfold arrC
  rw [e]
  simp only [List.append_assoc]
 ·rw [List.length_append, List.length_append, setB_len, outB_len]
  simp only [List.length_cons, List.length_nil]
  omega
theorem arr_end_at {n : Nat} {sets : List (Int × Int)} {q : Nat} {i : Nat} (hi : i < 3) : (arrP n sets q).at_ 0 (3 + 4 * sets.length + 4 * q + i) = [(⟨3, 0, 0, 0⟩ : Ins), ⟨31, 0, 0, 0⟩, ⟨33, 0, 0, 0⟩].getD i default := by
 rw [arr_code]
 refine piece_at (pre := [⟨1, 0, 0, n⟩, ⟨28, 0, 0, 0⟩, ⟨4, 0, 0, 0⟩] ++ (sets.flatMap setB ++ (List.range q).flatMap outB)) (blk := [⟨3, 0, 0, 0⟩, ⟨31, 0, 0, 0⟩, ⟨33, 0, 0, 0⟩]) (post := []) ?_ (by simpa using hi) ?_
 ·unfold arrC
  simp only [List.append_assoc]
  rfl
 ·rw [List.length_append, List.length_append, setB_len, outB_len]
  simp only [List.length_cons, List.length_nil]
  omega
def inB (n : Nat) (kv : Int × Int) : Prop := 0 ≤ kv.1 ∧ kv.1 < n
theorem arr_sets {n : Nat} {sets : List (Int × Int)} {q : Nat} (hn : n < 20) : ∀ j, j ≤ sets.length → (∀ i, i < j → inB n (sets.getD i default)) →
  Mc.steps (arrP n sets q) (3 + 4 * j) (Mc.new (arrP n sets q) [] 0) = arrS (3 + 4 * j) ((arrW n (sets.take j)).map vi) []
 | 0, _, _ => arr_start sets q hn
 | j + 1, h1, h2 => by
  rw [show 3 + 4 * (j + 1) = 3 + 4 * j + 4 by omega, steps_add, arr_sets hn j (by omega) (fun i hi => h2 i (by omega))]
  have hj := h2 j (by omega)
  have hl := arr_len (n := n) (sets.take j)
  unfold inB at hj
  rw [set_steps (k0 := 3 + 4 * j) (k := (sets.getD j default).1) (v := (sets.getD j default).2) (arr_set_at (by omega) (i := 0) (by omega)) (arr_set_at (by omega) (i := 1) (by omega)) (arr_set_at (by omega) (i := 2) (by omega)) (arr_set_at (by omega) (i := 3) (by omega)), if_neg (by rw [List.length_map, hl]; omega), vals_set]
  have e : sets.take (j + 1) = sets.take j ++ [sets.getD j default] := by
   rw [List.take_succ_eq_append_getElem (by omega), List.getD_eq_getElem?_getD, List.getElem?_eq_getElem (by omega)]
   rfl
  rw [e, arrW_snoc]
theorem arr_outs {n : Nat} {sets : List (Int × Int)} {q : Nat} (hn : n < 20) (hg : ∀ i, i < sets.length → inB n (sets.getD i default)) : ∀ j, j ≤ q → q ≤ n →
  Mc.steps (arrP n sets q) (3 + 4 * sets.length + 4 * j) (Mc.new (arrP n sets q) [] 0) = arrS (3 + 4 * sets.length + 4 * j) ((arrW n sets).map vi) ((arrW n sets).take j)
 | 0, _, _ => by
  have := arr_sets (q := q) hn sets.length (Nat.le_refl _) hg
  rw [List.take_length] at this
  exact this
 | j + 1, h1, h2 => by
  have hl := arr_len (n := n) sets
  rw [show 3 + 4 * sets.length + 4 * (j + 1) = 3 + 4 * sets.length + 4 * j + 4 by omega, steps_add, arr_outs hn hg j (by omega) h2]
  rw [out_steps (k0 := 3 + 4 * sets.length + 4 * j) (i := j) (arr_out_at (by omega) (i := 0) (by omega)) (arr_out_at (by omega) (i := 1) (by omega)) (arr_out_at (by omega) (i := 2) (by omega)) (arr_out_at (by omega) (i := 3) (by omega)) (by rw [List.length_map, hl]; omega)]
  congr 1
  rw [List.take_succ_eq_append_getElem (by omega), List.getD_eq_getElem?_getD, List.getElem?_map, List.getElem?_eq_getElem (by omega)]
  rfl
/-- All is set in its bounds. -/
theorem arr_good {n : Nat} {sets : List (Int × Int)} {q : Nat} (hn : n < 20) (hs : sets.length ≤ 10) (hq : 3 + 4 * sets.length + 4 * q ≤ 103) (hqn : q ≤ n) (hb : ∀ kv ∈ sets, in64 kv.1 ∧ in64 kv.2) (hg : ∀ i, i < sets.length → inB n (sets.getD i default)) :
  ((Mc.new (arrP n sets q) [] 0).run (arrP n sets q)).fin = some ⟨1, 0, 0, 0, n⟩ ∧ ((Mc.new (arrP n sets q) [] 0).run (arrP n sets q)).out = (arrW n sets).take q := by
 have v := arr_ok hn hs hq hb
 have h0 := Mc.Ok.new v (inp := []) (fuel := 0) (by simp) (by omega)
 have hl := arr_len (n := n) sets
 have h1 : Mc.steps (arrP n sets q) (3 + 4 * sets.length + 4 * q + 3) (Mc.new (arrP n sets q) [] 0) = ⟨[], [⟨-1, (arrW n sets).map vi⟩], [], 0, (arrW n sets).take q, some ⟨1, 0, 0, 0, n⟩⟩ := by
  rw [steps_add, arr_outs hn hg q (Nat.le_refl _) hqn]
  have a0 := arr_end_at (n := n) (sets := sets) (q := q) (i := 0) (by omega)
  have a1 := arr_end_at (n := n) (sets := sets) (q := q) (i := 1) (by omega)
  have a2 := arr_end_at (n := n) (sets := sets) (q := q) (i := 2) (by omega)
  generalize 3 + 4 * sets.length + 4 * q = k at a0 a1 a2 ⊢
  generalize hW : (arrW n sets).map vi = W
  generalize (arrW n sets).take q = O
  have hWl : W.length = n := by rw [← hW, List.length_map, hl]
  have e1 : Mc.step (arrP n sets q) (arrS k W O) = ⟨[⟨0, k + 1, [vr 0], [vr 0]⟩], [⟨-1, W⟩], [], 0, O, none⟩ := go1 (x := ⟨3, 0, 0, 0⟩) a0 (by simp) (by kernel_rfl)
  have e2 : Mc.step (arrP n sets q) ⟨[⟨0, k + 1, [vr 0], [vr 0]⟩], [⟨-1, W⟩], [], 0, O, none⟩ = ⟨[⟨0, k + 2, [vr 0], [vi W.length]⟩], [⟨-1, W⟩], [], 0, O, none⟩ := go1 (x := ⟨31, 0, 0, 0⟩) a1 (by simp) (by kernel_rfl)
  have e3 : Mc.step (arrP n sets q) ⟨[⟨0, k + 2, [vr 0], [vi W.length]⟩], [⟨-1, W⟩], [], 0, O, none⟩ = ⟨[], [⟨-1, W⟩], [], 0, O, some ⟨1, 0, 0, 0, W.length⟩⟩ := by
   rw [Mc.step_on (f := ⟨0, k + 2, [vr 0], [vi W.length]⟩) (below := []) rfl rfl]
   unfold Mc.stepF
   simp only [a2]
   rfl
  show Mc.step (arrP n sets q) (Mc.step (arrP n sets q) (Mc.step (arrP n sets q) (arrS k W O))) = _
  rw [e1, e2, e3, hWl]
 rw [← h0.run_is v (k := 3 + 4 * sets.length + 4 * q + 3) (by rw [h1]; intro e; cases e), h1]
 exact ⟨rfl, rfl⟩
/-- One is not. -/
theorem arr_bad {n : Nat} {sets : List (Int × Int)} {q j : Nat} (hn : n < 20) (hs : sets.length ≤ 10) (hq : 3 + 4 * sets.length + 4 * q ≤ 103) (hb : ∀ kv ∈ sets, in64 kv.1 ∧ in64 kv.2) (hj : j < sets.length) (hg : ∀ i, i < j → inB n (sets.getD i default)) (hbad : ¬ inB n (sets.getD j default)) :
  ((Mc.new (arrP n sets q) [] 0).run (arrP n sets q)).fin = some ⟨2, 3, 0, ((3 + 4 * j + 3 : Nat) : Int), 0⟩ ∧ ((Mc.new (arrP n sets q) [] 0).run (arrP n sets q)).out = [] := by
 have v := arr_ok hn hs hq hb
 have h0 := Mc.Ok.new v (inp := []) (fuel := 0) (by simp) (by omega)
 have hl := arr_len (n := n) (sets.take j)
 unfold inB at hbad
 have h1 := arr_sets (q := q) hn j (by omega) hg
 have h2 := set_steps (k0 := 3 + 4 * j) (out := []) (vals := (arrW n (sets.take j)).map vi) (k := (sets.getD j default).1) (v := (sets.getD j default).2) (arr_set_at (n := n) (q := q) hj (i := 0) (by omega)) (arr_set_at hj (i := 1) (by omega)) (arr_set_at hj (i := 2) (by omega)) (arr_set_at hj (i := 3) (by omega))
 rw [if_pos (by rw [List.length_map, hl]; omega)] at h2
 rw [← h1, ← steps_add] at h2
 rw [← h0.run_is v (k := 3 + 4 * j + 4) (by rw [h2]; intro e; cases e), h2]
 exact ⟨rfl, rfl⟩
end Go.Proofs.YtojobkhidlfeoaaDoor
