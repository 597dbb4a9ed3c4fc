/- What a program means, plain: a chain of objects; the greatest words that could be reached. -/
import Derived.Test.YtojobkhidlfeoaaGreatDoorMdH
namespace Go.Proofs.YtojobkhidlfeoaaGreatDoor

theorem pkO_add (p : Prg) (a : Nat) (S : Mc) : ∀ b, Mc.pkO p (a + b) S = max (Mc.pkO p a S) (Mc.pkO p b (Mc.steps p a S))
 | 0 => by
  have := pkO_nn p S a
  show Mc.pkO p a S = max (Mc.pkO p a S) 0
  omega
 | b + 1 => by
  show max (Mc.pkO p (a + b) S) (if (Mc.steps p (a + b) S).objs.length < (Mc.steps p (a + (b + 1)) S).objs.length then (Mc.steps p (a + (b + 1)) S).reachW p else 0) = max (Mc.pkO p a S) (max (Mc.pkO p b (Mc.steps p a S)) _)
  rw [pkO_add p a S b, steps_add p a b, steps_add p a (b + 1)]
  generalize (if (Mc.steps p b (Mc.steps p a S)).objs.length < (Mc.steps p (b + 1) (Mc.steps p a S)).objs.length then (Mc.steps p (b + 1) (Mc.steps p a S)).reachW p else 0) = z
  omega
/-- A step that makes no object. -/
theorem pkO_none {p : Prg} {S T : Mc} (h : S.step p = T) (ho : T.objs.length = S.objs.length) (k : Nat) : Mc.pkO p (k + 1) S = Mc.pkO p k T := by
 rw [Nat.add_comm k 1, pkO_add]
 have e1 : Mc.steps p 1 S = T := h
 have e2 : Mc.pkO p 1 S = max 0 (if S.objs.length < (Mc.steps p 1 S).objs.length then (Mc.steps p 1 S).reachW p else 0) := rfl
 rw [e2, e1, if_neg (by omega)]
 have := pkO_nn p T k
 omega
/-- .. and one that does. -/
theorem pkO_made {p : Prg} {S T : Mc} (h : S.step p = T) (ho : S.objs.length < T.objs.length) (k : Nat) {n : Int} (hn : T.reachW p = n) (hn0 : 0 ≤ n) : Mc.pkO p (k + 1) S = max n (Mc.pkO p k T) := by
 rw [Nat.add_comm k 1, pkO_add]
 have e1 : Mc.steps p 1 S = T := h
 have e2 : Mc.pkO p 1 S = max 0 (if S.objs.length < (Mc.steps p 1 S).objs.length then (Mc.steps p 1 S).reachW p else 0) := rfl
 rw [e2, e1, if_pos ho, hn]
 omega

def linkI (whole : Bool) : Ins := if whole then ⟨3, 0, 0, 0⟩ else ⟨2, 0, 0, 0⟩
def linkC (n : Int) (whole : Bool) : List Ins := [⟨3, 1, 0, 0⟩, ⟨1, 0, 0, n⟩, ⟨19, 0, 0, 0⟩, ⟨23, 16, 0, 0⟩, ⟨24, 0, 0, 0⟩, ⟨4, 2, 0, 0⟩, ⟨3, 2, 0, 0⟩, linkI whole, ⟨26, 0, 0, 0⟩, ⟨3, 2, 0, 0⟩, ⟨4, 0, 0, 0⟩, ⟨3, 1, 0, 0⟩, ⟨1, 0, 0, 1⟩, ⟨8, 0, 0, 0⟩, ⟨4, 1, 0, 0⟩, ⟨22, 0, 0, 0⟩, ⟨3, 1, 0, 0⟩, ⟨33, 0, 0, 0⟩]
def linkP (n : Int) (whole : Bool) : Prg := ⟨[bs [82]], [⟨ByteArray.empty, bs [82, 73, 82], bs [73], linkC n whole⟩]⟩
theorem linkP_bd {n : Int} {whole : Bool} (hn : in64 n) : (linkP n whole).Bd := by
 refine Prg.bd_of ?_
 intro m hm y hy
 simp only [linkP, List.mem_cons, List.not_mem_nil, or_false] at hm
 have h1 : in64 1 := by unfold in64; omega
 subst hm
 have hl : (linkI whole).bd := by
  cases whole
  ·exact ins_bd2 (by omega) (by omega) (by omega) in_0
  ·exact ins_bd2 (by omega) (by omega) (by omega) in_0
 simp only [linkC, List.mem_cons, List.not_mem_nil, or_false] at hy
 rcases hy with rfl | rfl | rfl | rfl | rfl | rfl | rfl | rfl | rfl | rfl | rfl | rfl | rfl | rfl | rfl | rfl | rfl | rfl
 all_goals first | exact hl | exact ins_bd2 (by omega) (by omega) (by omega) in_0 | exact ins_bd2 (by omega) (by omega) (by omega) h1 | exact ins_bd2 (by omega) (by omega) (by omega) hn
theorem linkP_ok {n : Int} {whole : Bool} (hn : in64 n) : Vf (linkP n whole) (linkP n whole).looks := by
 refine ⟨Prg.ok_of ?_, Prg.looks_of ?_, linkP_bd hn⟩
 ·cases whole <;> kernel_rfl
 ·cases whole <;> kernel_rfl

def linkO (whole : Bool) (j : Nat) : Ob := ⟨0, [vr (if whole then (j : Int) - 1 else -1)]⟩
def chainO (whole : Bool) (k : Nat) : List Ob := (List.range k).map (linkO whole)
theorem chainO_len (whole : Bool) (k : Nat) : (chainO whole k).length = k := by simp [chainO]
theorem chainO_succ (whole : Bool) (k : Nat) : chainO whole (k + 1) = chainO whole k ++ [linkO whole k] := by
 unfold chainO
 rw [List.range_succ, List.map_append]
 rfl
theorem chainO_get (whole : Bool) {k i : Nat} (h : i < k) : (chainO whole k).getD i default = linkO whole i := by
 unfold chainO
 rw [List.getD_eq_getElem?_getD, List.getElem?_map, List.getElem?_range h]
 rfl
abbrev linkS (objs : List Ob) (pc : Nat) (loc stk : List Vl) (F : Nat) : Mc := ⟨⟨0, pc, loc, stk⟩ :: [], objs, [], F, [], none⟩
def newO : Ob := ⟨0, [vr (-1)]⟩
/-- A new object is made: what can be reached then. -/
def linkT (whole : Bool) (k F : Nat) : Mc := linkS (chainO whole k ++ [newO]) 5 [vr ((k : Int) - 1), vi k, vr ((k : Int) - 1)] [vr k] F
theorem linkT_get {whole : Bool} {k i : Nat} (h : i ≤ k) : (chainO whole k ++ [newO]).getD i default = if i = k then newO else linkO whole i := by
 by_cases e : i = k
 ·subst e
  rw [if_pos rfl, List.getD_eq_getElem?_getD, List.getElem?_append_right (by rw [chainO_len]; omega), chainO_len, Nat.sub_self]
  rfl
 ·rw [if_neg e, List.getD_eq_getElem?_getD, List.getElem?_append_left (by rw [chainO_len]; omega), ← List.getD_eq_getElem?_getD]
  exact chainO_get whole (by omega)
theorem linkT_reach (whole : Bool) (k F : Nat) (i : Nat) (hi : i < k + 1) : (whole = true ∨ k ≤ i + 1) ↔ (linkT whole k F).Reach i := by
 have hfr : (⟨0, 5, [vr ((k : Int) - 1), vi k, vr ((k : Int) - 1)], [vr k]⟩ : Fm) ∈ (linkT whole k F).frs := by
  unfold linkT linkS
  simp
 have rk : (linkT whole k F).Reach k := .root hfr (v := vr k) (by simp) ⟨rfl, rfl⟩
 have rp : ∀ q : Nat, (q : Int) = (k : Int) - 1 → (linkT whole k F).Reach q := fun q hq => .root hfr (v := vr ((k : Int) - 1)) (by simp) ⟨rfl, hq.symm⟩
 constructor
 ·intro h
  by_cases e : i = k
  ·rw [e]; exact rk
  by_cases e2 : k ≤ i + 1
  ·exact rp i (by omega)
  have hw : whole = true := by
   rcases h with h | h
   ·exact h
   ·omega
  subst hw
  have key : ∀ d q : Nat, q + d + 1 = k → (linkT true k F).Reach q := by
   intro d
   induction d with
   | zero => intro q hq; exact rp q (by omega)
   | succ d ih =>
    intro q hq
    refine .step (ih (q + 1) (by omega)) (v := vr (((q + 1 : Nat) : Int) - 1)) ?_ ⟨rfl, by show ((q + 1 : Nat) : Int) - 1 = _; omega⟩
    have e3 : (linkT true k F).objs.getD (q + 1) default = linkO true (q + 1) := by
     show (chainO true k ++ [newO]).getD (q + 1) default = _
     rw [linkT_get (by omega), if_neg (by omega)]
    rw [e3]
    simp [linkO]
  exact key (k - i - 1) i (by omega)
 ·intro h
  have key : ∀ j, (linkT whole k F).Reach j → j ≤ k ∧ (whole = true ∨ k ≤ j + 1) := by
   intro j hj
   induction hj with
   | root hf hv hn =>
    rename_i f v i2
    have hf2 : f = (⟨0, 5, [vr ((k : Int) - 1), vi k, vr ((k : Int) - 1)], [vr k]⟩ : Fm) := by
     unfold linkT linkS at hf
     simpa using hf
    subst hf2
    simp only [List.mem_append, List.mem_cons, List.not_mem_nil, or_false] at hv
    obtain ⟨hn1, hn2⟩ := hn
    rcases hv with (rfl | rfl | rfl) | rfl
    ·have h3 : (k : Int) - 1 = _ := hn2; exact ⟨by omega, .inr (by omega)⟩
    ·cases hn1
    ·have h3 : (k : Int) - 1 = _ := hn2; exact ⟨by omega, .inr (by omega)⟩
    ·have h3 : (k : Int) = _ := hn2; exact ⟨by omega, .inr (by omega)⟩
   | step hr hv hn ih =>
    rename_i a b v
    have e3 : (linkT whole k F).objs.getD a default = if a = k then newO else linkO whole a := linkT_get ih.1
    rw [e3] at hv
    obtain ⟨hn1, hn2⟩ := hn
    by_cases e : a = k
    ·rw [if_pos e] at hv
     simp only [newO, List.mem_singleton] at hv
     subst hv
     have h3 : (-1 : Int) = _ := hn2
     omega
    ·rw [if_neg e] at hv
     simp only [linkO, List.mem_singleton] at hv
     subst hv
     have h3 : (if whole = true then (a : Int) - 1 else -1) = _ := hn2
     cases whole with
     | false => simp at h3 <;> omega
     | true => simp at h3; exact ⟨by omega, .inl rfl⟩
  exact (key i h).2
theorem sum_const {f : Nat → Int} {c : Int} : ∀ k : Nat, (∀ i, i < k → f i = c) → ((List.range k).map f).sum = c * k
 | 0, _ => by simp
 | k + 1, h => by
  rw [List.range_succ, List.map_append, List.sum_append, sum_const k (fun i hi => h i (by omega))]
  simp only [List.map_cons, List.map_nil, List.sum_cons, List.sum_nil]
  rw [h k (by omega), Int.natCast_succ, Int.mul_add]
  omega
def linkW (whole : Bool) (k : Nat) : Int := if whole then 3 * (k : Int) else 3 * ((min k 2 : Nat) : Int)
theorem link_ow (n : Int) (whole : Bool) (o : Ob) (h : o.cls = 0) : (linkP n whole).ow o = 3 := by
 unfold Prg.ow
 rw [h, if_pos ⟨by omega, by show (0 : Int) < 1; decide⟩]
 have e : ((linkP n whole).cs.getD (0 : Int).toNat ByteArray.empty).size = 1 := by kernel_rfl
 rw [e]
 rfl
theorem linkT_words (n : Int) (whole : Bool) (k F : Nat) : (linkT whole k F).reachW (linkP n whole) = linkW whole (k + 1) := by
 have hlen : (linkT whole k F).objs.length = k + 1 := by
  show (chainO whole k ++ [newO]).length = _
  rw [List.length_append, chainO_len]
  rfl
 rw [← reachW_is (f := fun i => whole || decide (k ≤ i + 1)) (fun i hi => by
  rw [hlen] at hi
  rw [← linkT_reach whole k F i hi]
  simp)]
 have how : ∀ i, i < k + 1 → (linkP n whole).ow ((linkT whole k F).objs.getD i default) = 3 := fun i hi => by
  refine link_ow _ _ _ ?_
  have e : (linkT whole k F).objs.getD i default = if i = k then newO else linkO whole i := linkT_get (by omega)
  rw [e]
  split <;> rfl
 unfold sumS linkW
 rw [hlen]
 cases whole with
 | true =>
  rw [sum_const (c := 3) (k + 1) (fun i hi => by rw [how i hi]; simp)]
  rfl
 | false =>
  rw [if_neg (by simp)]
  cases k with
  | zero =>
   have h0 := how 0 (by omega)
   simp only [List.range_succ, List.range_zero, List.nil_append, List.map_cons, List.map_nil, List.sum_cons, List.sum_nil]
   rw [h0]
   simp
  | succ m =>
   rw [List.range_succ, List.range_succ, List.map_append, List.map_append, List.sum_append, List.sum_append, sum_const (c := 0) m (fun i hi => by
    rw [if_neg (by simp; omega)])]
   simp only [List.map_cons, List.map_nil, List.sum_cons, List.sum_nil]
   rw [how m (by omega), how (m + 1) (by omega), if_pos (by simp), if_pos (by simp), Nat.min_eq_right (by omega)]
   simp

/-- The head of the loop, k objects made. -/
def linkL (whole : Bool) (k : Nat) : Mc := linkS (chainO whole k) 0 [vr ((k : Int) - 1), vi k, vr ((k : Int) - 1)] [] (100 - k)
theorem link_lt {n k : Int} {whole : Bool} {objs : List Ob} {F : Nat} {u v : Vl} : Mc.steps (linkP n whole) 3 (linkS objs 0 [u, vi k, v] [] F) = linkS objs 3 [u, vi k, v] [vi (if k < n then 1 else 0)] F ∧ Mc.pkO (linkP n whole) 3 (linkS objs 0 [u, vi k, v] [] F) = 0 := by
 have e1 : Mc.step (linkP n whole) (linkS objs 0 [u, vi k, v] [] F) = linkS objs 1 [u, vi k, v] [vi k] F := by kernel_rfl
 have e2 : Mc.step (linkP n whole) (linkS objs 1 [u, vi k, v] [vi k] F) = linkS objs 2 [u, vi k, v] [vi k, vi n] F := by kernel_rfl
 have e3 : Mc.step (linkP n whole) (linkS objs 2 [u, vi k, v] [vi k, vi n] F) = linkS objs 3 [u, vi k, v] [vi (if k < n then 1 else 0)] F := by kernel_rfl
 refine ⟨?_, ?_⟩
 ·rw [steps_cons e1, steps_cons e2, steps_cons e3]
  rfl
 ·rw [pkO_none e1 rfl, pkO_none e2 rfl, pkO_none e3 rfl]
  rfl
theorem link_round {n : Int} {whole : Bool} {k : Nat} (hk : (k : Int) < n) (hn : n < 60) : Mc.steps (linkP n whole) 16 (linkL whole k) = linkL whole (k + 1) ∧ Mc.pkO (linkP n whole) 16 (linkL whole k) = linkW whole (k + 1) := by
 obtain ⟨G, hG⟩ : ∃ G, 100 - k = G + 1 := ⟨100 - k - 1, by omega⟩
 have hG2 : 100 - (k + 1) = G := by omega
 obtain ⟨lt1, lt2⟩ := link_lt (n := n) (k := k) (whole := whole) (objs := chainO whole k) (F := G + 1) (u := vr ((k : Int) - 1)) (v := vr ((k : Int) - 1))
 rw [if_pos hk] at lt1
 have e4 : Mc.step (linkP n whole) (linkS (chainO whole k) 3 [vr ((k : Int) - 1), vi k, vr ((k : Int) - 1)] [vi 1] (G + 1)) = linkS (chainO whole k) 4 [vr ((k : Int) - 1), vi k, vr ((k : Int) - 1)] [] (G + 1) := zero_fall (x := ⟨23, 16, 0, 0⟩) rfl rfl (by decide)
 have e5 : Mc.step (linkP n whole) (linkS (chainO whole k) 4 [vr ((k : Int) - 1), vi k, vr ((k : Int) - 1)] [] (G + 1)) = linkT whole k (G + 1) := by
  have h : Mc.step (linkP n whole) (linkS (chainO whole k) 4 [vr ((k : Int) - 1), vi k, vr ((k : Int) - 1)] [] (G + 1)) = linkS (chainO whole k ++ [newO]) 5 [vr ((k : Int) - 1), vi k, vr ((k : Int) - 1)] [vr ((chainO whole k).length : Int)] (G + 1) := by kernel_rfl
  rw [h, chainO_len]
  rfl
 have e6 : Mc.step (linkP n whole) (linkT whole k (G + 1)) = linkS (chainO whole k ++ [newO]) 6 [vr ((k : Int) - 1), vi k, vr k] [] (G + 1) := by kernel_rfl
 have e7 : Mc.step (linkP n whole) (linkS (chainO whole k ++ [newO]) 6 [vr ((k : Int) - 1), vi k, vr k] [] (G + 1)) = linkS (chainO whole k ++ [newO]) 7 [vr ((k : Int) - 1), vi k, vr k] [vr k] (G + 1) := by kernel_rfl
 have e8 : Mc.step (linkP n whole) (linkS (chainO whole k ++ [newO]) 7 [vr ((k : Int) - 1), vi k, vr k] [vr k] (G + 1)) = linkS (chainO whole k ++ [newO]) 8 [vr ((k : Int) - 1), vi k, vr k] [vr k, vr (if whole then (k : Int) - 1 else -1)] (G + 1) := by
  cases whole
  ·kernel_rfl
  ·kernel_rfl
 have e9 : Mc.step (linkP n whole) (linkS (chainO whole k ++ [newO]) 8 [vr ((k : Int) - 1), vi k, vr k] [vr k, vr (if whole then (k : Int) - 1 else -1)] (G + 1)) = linkS (chainO whole (k + 1)) 9 [vr ((k : Int) - 1), vi k, vr k] [] (G + 1) := by
  refine go1 (x := ⟨26, 0, 0, 0⟩) rfl (by simp) ?_
  have h : Mc.plain (linkP n whole) (linkS (chainO whole k ++ [newO]) 8 [vr ((k : Int) - 1), vi k, vr k] [vr k, vr (if whole then (k : Int) - 1 else -1)] (G + 1)) ⟨0, 8, [vr ((k : Int) - 1), vi k, vr k], [vr k, vr (if whole then (k : Int) - 1 else -1)]⟩ ⟨26, 0, 0, 0⟩ =
    (if (k : Int) = -1 then Mact.trap 1 else if ((chainO whole k ++ [newO]).getD (k : Int).toNat default).cls ≠ 0 then Mact.trap 2 else Mact.go [vr ((k : Int) - 1), vi k, vr k] [] ((chainO whole k ++ [newO]).set (k : Int).toNat ⟨((chainO whole k ++ [newO]).getD (k : Int).toNat default).cls, ((chainO whole k ++ [newO]).getD (k : Int).toNat default).vals.set 0 (vr (if whole then (k : Int) - 1 else -1))⟩) [] []) := by kernel_rfl
  rw [h, Int.toNat_natCast, linkT_get (Nat.le_refl k), if_pos rfl, if_neg (by omega), if_neg (by decide)]
  congr 1
  rw [List.set_append_right _ _ (by rw [chainO_len]; omega), chainO_len, Nat.sub_self, chainO_succ]
  rfl
 have hlen1 : (chainO whole k ++ [newO]).length = k + 1 := by rw [List.length_append, chainO_len]; rfl
 have e10 : Mc.step (linkP n whole) (linkS (chainO whole (k + 1)) 9 [vr ((k : Int) - 1), vi k, vr k] [] (G + 1)) = linkS (chainO whole (k + 1)) 10 [vr ((k : Int) - 1), vi k, vr k] [vr k] (G + 1) := by kernel_rfl
 have e11 : Mc.step (linkP n whole) (linkS (chainO whole (k + 1)) 10 [vr ((k : Int) - 1), vi k, vr k] [vr k] (G + 1)) = linkS (chainO whole (k + 1)) 11 [vr k, vi k, vr k] [] (G + 1) := by kernel_rfl
 have e12 : Mc.step (linkP n whole) (linkS (chainO whole (k + 1)) 11 [vr k, vi k, vr k] [] (G + 1)) = linkS (chainO whole (k + 1)) 12 [vr k, vi k, vr k] [vi k] (G + 1) := by kernel_rfl
 have e13 : Mc.step (linkP n whole) (linkS (chainO whole (k + 1)) 12 [vr k, vi k, vr k] [vi k] (G + 1)) = linkS (chainO whole (k + 1)) 13 [vr k, vi k, vr k] [vi k, vi 1] (G + 1) := by kernel_rfl
 have e14 : Mc.step (linkP n whole) (linkS (chainO whole (k + 1)) 13 [vr k, vi k, vr k] [vi k, vi 1] (G + 1)) = linkS (chainO whole (k + 1)) 14 [vr k, vi k, vr k] [vi (IntKind.i64.wrap ((k : Int) + 1))] (G + 1) := by kernel_rfl
 rw [IntWalk.i64_in _ (by omega)] at e14
 have e15 : Mc.step (linkP n whole) (linkS (chainO whole (k + 1)) 14 [vr k, vi k, vr k] [vi ((k : Int) + 1)] (G + 1)) = linkS (chainO whole (k + 1)) 15 [vr k, vi ((k : Int) + 1), vr k] [] (G + 1) := by kernel_rfl
 have e16 : Mc.step (linkP n whole) (linkS (chainO whole (k + 1)) 15 [vr k, vi ((k : Int) + 1), vr k] [] (G + 1)) = linkS (chainO whole (k + 1)) 0 [vr k, vi ((k : Int) + 1), vr k] [] G := by kernel_rfl
 have e17 : linkS (chainO whole (k + 1)) 0 [vr k, vi ((k : Int) + 1), vr k] [] G = linkL whole (k + 1) := by
  unfold linkL
  rw [hG2, Int.natCast_succ, Int.add_sub_cancel]
 have e0 : linkL whole k = linkS (chainO whole k) 0 [vr ((k : Int) - 1), vi k, vr ((k : Int) - 1)] [] (G + 1) := by
  unfold linkL
  rw [hG]
 have hc : (chainO whole (k + 1)).length = k + 1 := chainO_len _ _
 have hc0 : (chainO whole k).length = k := chainO_len _ _
 refine ⟨?_, ?_⟩
 ·rw [e0, show (16 : Nat) = 3 + 13 from rfl, steps_add, lt1]
  rw [steps_cons e4, steps_cons e5, steps_cons e6, steps_cons e7, steps_cons e8, steps_cons e9, steps_cons e10, steps_cons e11, steps_cons e12, steps_cons e13, steps_cons e14, steps_cons e15, steps_cons e16, e17]
  rfl
 ·rw [e0, show (16 : Nat) = 3 + 13 from rfl, pkO_add, lt2, lt1]
  have hw0 : 0 ≤ linkW whole (k + 1) := by unfold linkW; split <;> omega
  rw [pkO_none e4 rfl, pkO_made e5 (by show (chainO whole k).length < (chainO whole k ++ [newO]).length; omega) _ (linkT_words n whole k (G + 1)) hw0, pkO_none e6 rfl, pkO_none e7 rfl, pkO_none e8 rfl, pkO_none e9 (by show (chainO whole (k + 1)).length = (chainO whole k ++ [newO]).length; omega), pkO_none e10 rfl, pkO_none e11 rfl, pkO_none e12 rfl, pkO_none e13 rfl, pkO_none e14 rfl, pkO_none e15 rfl, pkO_none e16 rfl]
  show max 0 (max _ 0) = _
  omega
theorem link_rounds {n : Int} {whole : Bool} (hn : n < 60) : ∀ k : Nat, (k : Int) ≤ n → Mc.steps (linkP n whole) (16 * k) (linkL whole 0) = linkL whole k ∧ Mc.pkO (linkP n whole) (16 * k) (linkL whole 0) = linkW whole k
 | 0, _ => ⟨rfl, by unfold linkW; cases whole <;> rfl⟩
 | k + 1, h => by
  obtain ⟨i1, i2⟩ := link_rounds hn k (by omega)
  obtain ⟨r1, r2⟩ := link_round (whole := whole) (k := k) (n := n) (by omega) hn
  rw [show 16 * (k + 1) = 16 * k + 16 by omega]
  refine ⟨by rw [steps_add, i1, r1], ?_⟩
  rw [pkO_add, i1, i2, r2]
  unfold linkW
  split <;> omega
theorem link_run {n : Nat} (whole : Bool) (hn : n < 60) :
  let p := linkP n whole
  ((Mc.new p [] 100).run p).out = [] ∧ ((Mc.new p [] 100).run p).fin = some ⟨1, 0, 0, 0, n⟩ ∧
  ∃ k, (Mc.steps p k (Mc.new p [] 100)).fin ≠ none ∧ Mc.pkO p k (Mc.new p [] 100) = linkW whole n := by
 intro p
 have v : Vf p p.looks := linkP_ok (by unfold in64; omega)
 have h0 := Mc.Ok.new v (inp := []) (fuel := 100) (by simp) (by omega)
 have e0 : Mc.new p [] 100 = linkL whole 0 := by kernel_rfl
 obtain ⟨r1, r2⟩ := link_rounds (whole := whole) (n := (n : Int)) (by omega) n (Int.le_refl _)
 obtain ⟨lt1, lt2⟩ := link_lt (n := n) (k := n) (whole := whole) (objs := chainO whole n) (F := 100 - n) (u := vr ((n : Int) - 1)) (v := vr ((n : Int) - 1))
 rw [if_neg (by omega)] at lt1
 have e4 : Mc.step p (linkS (chainO whole n) 3 [vr ((n : Int) - 1), vi n, vr ((n : Int) - 1)] [vi 0] (100 - n)) = linkS (chainO whole n) 16 [vr ((n : Int) - 1), vi n, vr ((n : Int) - 1)] [] (100 - n) := zero_jump (x := ⟨23, 16, 0, 0⟩) rfl rfl rfl (by decide)
 have e5 : Mc.step p (linkS (chainO whole n) 16 [vr ((n : Int) - 1), vi n, vr ((n : Int) - 1)] [] (100 - n)) = linkS (chainO whole n) 17 [vr ((n : Int) - 1), vi n, vr ((n : Int) - 1)] [vi n] (100 - n) := by kernel_rfl
 have e6 : Mc.step p (linkS (chainO whole n) 17 [vr ((n : Int) - 1), vi n, vr ((n : Int) - 1)] [vi n] (100 - n)) = ⟨[], chainO whole n, [], 100 - n, [], some ⟨1, 0, 0, 0, n⟩⟩ := by kernel_rfl
 have hs : Mc.steps p (16 * n + (3 + 3)) (Mc.new p [] 100) = ⟨[], chainO whole n, [], 100 - n, [], some ⟨1, 0, 0, 0, n⟩⟩ := by
  rw [e0, steps_add, r1, steps_add]
  unfold linkL
  rw [lt1]
  rw [steps_cons e4, steps_cons e5, steps_cons e6]
  rfl
 have hk : (Mc.steps p (16 * n + (3 + 3)) (Mc.new p [] 100)).fin ≠ none := by rw [hs]; intro e; cases e
 have hr := h0.run_is v hk
 rw [hs] at hr
 refine ⟨by rw [← hr], by rw [← hr], 16 * n + (3 + 3), hk, ?_⟩
 rw [e0, pkO_add, r1, r2, pkO_add]
 have e1 : linkL whole n = linkS (chainO whole n) 0 [vr ((n : Int) - 1), vi n, vr ((n : Int) - 1)] [] (100 - n) := rfl
 rw [e1, lt2, lt1, pkO_none e4 rfl, pkO_none e5 rfl, pkO_none e6 rfl]
 have hw0 : 0 ≤ linkW whole n := by unfold linkW; split <;> omega
 show max _ (max 0 0) = _
 omega
end Go.Proofs.YtojobkhidlfeoaaGreatDoor
