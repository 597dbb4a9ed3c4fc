/- A region that draws its order, and stores last: what its loads read need not hold behind the store. A region that draws its order: what its loads read need not hold from a certain store on. -/
import Derived.Deep.RegionHeld3
/-! A region that draws its order, and stores last: what its loads read need not hold behind the store. -/
namespace Go.Proofs.YtbcoejmiihgfoaaDoor
open Go

section
variable {P : Program} {ops : Array Oper} {Q : Exit → Go.Act → World → Prop} {md : Region.Mode} {S : World → Prop} {L : Nat}
/-- In whatever order; S holds behind each operation but L. -/
def wpAnyL (P : Program) (md : Region.Mode) (ops : Array Oper) (Q : Exit → Go.Act → World → Prop) (S : World → Prop) (L : Nat) : Nat → Array Bool → Go.Act → World → Prop
 | 0, listed, a, w => Region.ready md ops listed = [] ∧ Q .normal a w
 | fuel + 1, listed, a, w =>
  (Region.ready md ops listed = [] → Q .normal a w) ∧
  ∀ i ∈ Region.ready md ops listed, wpOp P ops Q i (fun a' w' => (i ≠ L → S w') ∧ wpAnyL P md ops Q S L fuel (listed.setIfInBounds i true) a' w') a w
theorem wpAny_of_L : ∀ (fuel : Nat) (listed : Array Bool) (a : Go.Act) (w : World), wpAnyL P md ops Q S L fuel listed a w → wpAny P md ops Q fuel listed a w
 | 0, _, _, _, h => h
 | fuel + 1, _, _, _, h => ⟨h.1, fun i hi => wpOp_mono (fun a' w' h' => wpAny_of_L fuel _ a' w' h'.2) (h.2 i hi)⟩
/-- Operation L waits for operation i. -/
def waits (md : Region.Mode) (ops : Array Oper) (L i : Nat) : Bool := match ops[L]? with
 | some o => o.after.any fun e => Region.binds md e && e.on == i
 | none => false
theorem wpAnyL_first {i : Nat} {oi : Oper} {v : Value} (hi : ops[i]? = some oi) (hsel : ∀ (j : Nat) (o : Oper) cs b, ops[j]? = some o → o.op ≠ .select cs b)
  (hQ : ∀ c a w, Q (.panic c) (a.put oi.dst v) w → Q (.panic c) a w) (hL : waits md ops L i = true) :
  ∀ (fuel : Nat) (listed : Array Bool) (a : Go.Act) (w : World),
   (∀ j oj, ops[j]? = some oj → j ≠ i → listed.getD j true = false → (∀ e ∈ oj.after, Region.binds md e = true → e.on ≠ i) → oi.apart ops oj = true) →
   i ∈ Region.ready md ops listed → YieldsIf P ops S oi v a → S w →
   wpAnyL P md ops Q S L fuel (listed.setIfInBounds i true) (a.put oi.dst v) w → wpAnyL P md ops Q S L (fuel + 1) listed a w := by
 intro fuel
 induction fuel with
 | zero =>
  intro listed a w _ hr hy hS H
  refine ⟨fun h => (by rw [h] at hr; cases hr), fun j hj => ?_⟩
  by_cases hji : j = i
  ·subst hji; exact hy.wpOp hi hS ⟨fun _ => hS, H⟩
  ·have := ready_mono hj hji
   rw [H.1] at this
   cases this
 | succ fuel ih =>
  intro listed a w hfree hr hy hS H
  refine ⟨fun h => (by rw [h] at hr; cases hr), fun j hj => ?_⟩
  by_cases hji : j = i
  ·subst hji; exact hy.wpOp hi hS ⟨fun _ => hS, H⟩
  ·have h1 := H.2 j (ready_mono hj hji)
   obtain ⟨hjun, oj, hoj, hall⟩ := mem_ready.1 hj
   have hnot : ∀ e ∈ oj.after, Region.binds md e = true → e.on ≠ i := fun e he hb heq => by
    have h1 := hall e he hb
    have h0 := (mem_ready.1 hr).1
    rw [heq] at h1
    rcases Nat.lt_or_ge i listed.size with h' | h'
    ·simp [h'] at h0 h1; rw [h0] at h1; cases h1
    ·simp [Array.getElem?_eq_none h'] at h1
   have hjL : j ≠ L := by
    rintro rfl
    unfold waits at hL
    rw [hoj] at hL
    simp only [Array.any_eq_true] at hL
    obtain ⟨k, hk, hke⟩ := hL
    rw [Bool.and_eq_true, beq_iff_eq] at hke
    exact hnot _ (Array.getElem_mem hk) hke.1 hke.2
   have h2 := wpOp_putIf hoj (hfree j oj hoj hji hjun hnot) (fun cs b => hsel i oi cs b hi) (fun cs b => hsel j oj cs b hoj) hQ hy h1
   have hfree' : ∀ k ok, ops[k]? = some ok → k ≠ i → (listed.setIfInBounds j true).getD k true = false →
     (∀ e ∈ ok.after, Region.binds md e = true → e.on ≠ i) → oi.apart ops ok = true := fun k ok hk hki hun hno => by
    refine hfree k ok hk hki ?_ hno
    by_cases hjk : j = k
    ·subst hjk; exact hjun
    ·rw [getD_set_ne true hjk] at hun; exact hun
   refine wpOp_mono (fun a' w' h3 => ⟨fun _ => h3.2.1 hjL, ih (listed.setIfInBounds j true) a' w' hfree' (ready_mono hr (Ne.symm hji)) h3.1 (h3.2.1 hjL) ?_⟩) h2
   rw [Array.setIfInBounds_comm _ _ hji]
   exact h3.2.2
/-- Number i is taken first. -/
theorem wpAnyL_take {i : Nat} {oi : Oper} {v : Value} {fuel : Nat} {listed : Array Bool} {a : Go.Act} {w : World} (hi : ops[i]? = some oi)
  (hs : Region.noSelect ops = true) (hf : Region.free md ops listed i = true) (hr : (Region.ready md ops listed).contains i = true) (hL : waits md ops L i = true)
  (hQ : ∀ c a w, Q (.panic c) (a.put oi.dst v) w → Q (.panic c) a w) (hy : YieldsIf P ops S oi v a) (hS : S w)
  (h : wpAnyL P md ops Q S L fuel (listed.setIfInBounds i true) (a.put oi.dst v) w) : wpAnyL P md ops Q S L (fuel + 1) listed a w :=
 wpAnyL_first hi (Region.noSelect_spec hs) hQ hL fuel listed a w (Region.free_spec hi hf) (by simpa using hr) hy hS h
/-- From i on to the last one: each waits for the one ahead of it, none has come up. -/
def chainB (md : Region.Mode) (ops : Array Oper) (listed : Array Bool) : Nat → List Nat → Bool
 | _, [] => true
 | i, k :: ks => (listed.getD k true == false) && waits md ops k i && chainB md ops listed k ks
theorem waits_not_ready {i k : Nat} {listed : Array Bool} (h : waits md ops k i = true) (hi : listed.getD i true = false) (hk : k ∈ Region.ready md ops listed) : False := by
 obtain ⟨_, o, ho, hall⟩ := mem_ready.1 hk
 unfold waits at h
 rw [ho] at h
 simp only [Array.any_eq_true] at h
 obtain ⟨n, hn, he⟩ := h
 rw [Bool.and_eq_true, beq_iff_eq] at he
 have h1 := hall _ (Array.getElem_mem hn) he.1
 rw [he.2] at h1
 rcases Nat.lt_or_ge i listed.size with h' | h'
 ·simp [h'] at hi h1; rw [hi] at h1; cases h1
 ·simp [Array.getElem?_eq_none h'] at h1
theorem chainB_step {j : Nat} {listed : Array Bool} (hj : j ∈ Region.ready md ops listed) : ∀ (ks : List Nat) (i : Nat), listed.getD i true = false → chainB md ops listed i ks = true → (∀ k ∈ ks, k ≠ j) ∧ chainB md ops (listed.setIfInBounds j true) i ks = true
 | [], _, _, _ => ⟨by simp, rfl⟩
 | k :: ks, i, hi, h => by
  unfold chainB at h
  rw [Bool.and_eq_true, Bool.and_eq_true, beq_iff_eq] at h
  have hkj : k ≠ j := fun e => by subst e; exact waits_not_ready h.1.2 hi hj
  obtain ⟨h1, h2⟩ := chainB_step hj ks k h.1.1 h.2
  refine ⟨fun q hq => ?_, ?_⟩
  ·rcases List.mem_cons.1 hq with rfl | hq
   ·exact hkj
   ·exact h1 q hq
  ·unfold chainB
   rw [Bool.and_eq_true, Bool.and_eq_true, beq_iff_eq]
   exact ⟨⟨by rw [getD_set_ne true (Ne.symm hkj)]; exact h.1.1, h.1.2⟩, h2⟩
theorem wpAnyL_firstP {i : Nat} {oi : Oper} {v : Value} (hi : ops[i]? = some oi) (hsel : ∀ (j : Nat) (o : Oper) cs b, ops[j]? = some o → o.op ≠ .select cs b)
  (hQ : ∀ c a w, Q (.panic c) (a.put oi.dst v) w → Q (.panic c) a w) (ks : List Nat) (hL : L ∈ ks) :
  ∀ (fuel : Nat) (listed : Array Bool) (a : Go.Act) (w : World), chainB md ops listed i ks = true →
   (∀ j oj, ops[j]? = some oj → j ≠ i → listed.getD j true = false → (∀ e ∈ oj.after, Region.binds md e = true → e.on ≠ i) → oi.apart ops oj = true) →
   i ∈ Region.ready md ops listed → YieldsIf P ops S oi v a → S w →
   wpAnyL P md ops Q S L fuel (listed.setIfInBounds i true) (a.put oi.dst v) w → wpAnyL P md ops Q S L (fuel + 1) listed a w := by
 intro fuel
 induction fuel with
 | zero =>
  intro listed a w _ _ hr hy hS H
  refine ⟨fun h => (by rw [h] at hr; cases hr), fun j hj => ?_⟩
  by_cases hji : j = i
  ·subst hji; exact hy.wpOp hi hS ⟨fun _ => hS, H⟩
  ·have := ready_mono hj hji
   rw [H.1] at this
   cases this
 | succ fuel ih =>
  intro listed a w hch hfree hr hy hS H
  refine ⟨fun h => (by rw [h] at hr; cases hr), fun j hj => ?_⟩
  by_cases hji : j = i
  ·subst hji; exact hy.wpOp hi hS ⟨fun _ => hS, H⟩
  ·have h1 := H.2 j (ready_mono hj hji)
   have hun := (mem_ready.1 hr).1
   obtain ⟨hjun, oj, hoj, hall⟩ := mem_ready.1 hj
   have hnot : ∀ e ∈ oj.after, Region.binds md e = true → e.on ≠ i := fun e he hb heq => by
    have h1 := hall e he hb
    have h0 := (mem_ready.1 hr).1
    rw [heq] at h1
    rcases Nat.lt_or_ge i listed.size with h' | h'
    ·simp [h'] at h0 h1; rw [h0] at h1; cases h1
    ·simp [Array.getElem?_eq_none h'] at h1
   obtain ⟨hks, hch2⟩ := chainB_step hj ks i hun hch
   have hjL : j ≠ L := fun e => hks L hL e.symm
   have h2 := wpOp_putIf hoj (hfree j oj hoj hji hjun hnot) (fun cs b => hsel i oi cs b hi) (fun cs b => hsel j oj cs b hoj) hQ hy h1
   have hfree' : ∀ k ok, ops[k]? = some ok → k ≠ i → (listed.setIfInBounds j true).getD k true = false →
     (∀ e ∈ ok.after, Region.binds md e = true → e.on ≠ i) → oi.apart ops ok = true := fun k ok hk hki hun hno => by
    refine hfree k ok hk hki ?_ hno
    by_cases hjk : j = k
    ·subst hjk; exact hjun
    ·rw [getD_set_ne true hjk] at hun; exact hun
   refine wpOp_mono (fun a' w' h3 => ⟨fun _ => h3.2.1 hjL, ih (listed.setIfInBounds j true) a' w' hch2 hfree' (ready_mono hr (Ne.symm hji)) h3.1 (h3.2.1 hjL) ?_⟩) h2
   rw [Array.setIfInBounds_comm _ _ hji]
   exact h3.2.2
/-- Number i is taken first; the last one waits for it by a chain. -/
theorem wpAnyL_takeP {i : Nat} (ks : List Nat) {oi : Oper} {v : Value} {fuel : Nat} {listed : Array Bool} {a : Go.Act} {w : World} (hi : ops[i]? = some oi)
  (hs : Region.noSelect ops = true) (hf : Region.free md ops listed i = true) (hr : (Region.ready md ops listed).contains i = true) (hL : (ks.contains L && chainB md ops listed i ks) = true)
  (hQ : ∀ c a w, Q (.panic c) (a.put oi.dst v) w → Q (.panic c) a w) (hy : YieldsIf P ops S oi v a) (hS : S w)
  (h : wpAnyL P md ops Q S L fuel (listed.setIfInBounds i true) (a.put oi.dst v) w) : wpAnyL P md ops Q S L (fuel + 1) listed a w := by
 rw [Bool.and_eq_true] at hL
 exact wpAnyL_firstP hi (Region.noSelect_spec hs) hQ ks (by simpa using hL.1) fuel listed a w hL.2 (Region.free_spec hi hf) (by simpa using hr) hy hS h
/-- The one that may come up, but the last; S is to be shown behind it. -/
theorem wpAnyL_one {i : Nat} {o : Oper} {fuel : Nat} {listed : Array Bool} {a : Go.Act} {w : World} (hr : Region.ready md ops listed = [i]) (ho : ops[i]? = some o)
  (h : ∀ K' : Go.Act → World → Prop, Shut (∀ a w, S w → (S w → wpAnyL P md ops Q S L fuel (listed.setIfInBounds i true) a w) → K' a w) → if Region.wanted o (yielded ops a.tmps) = true then Oper.wp P o a w K' Q else K' (a.put o.dst undef) w) :
  wpAnyL P md ops Q S L (fuel + 1) listed a w := by
 refine ⟨fun h0 => (by rw [hr] at h0; cases h0), fun j hj => ?_⟩
 rw [hr, List.mem_singleton] at hj
 subst hj
 exact wpOp_step ho (fun K' hK => h K' (fun a w hS hW => hK a w ⟨fun _ => hS, hW hS⟩))
/-- Several may come up, none of them the last. -/
def AllReadyL (P : Program) (md : Region.Mode) (ops : Array Oper) (Q : Exit → Go.Act → World → Prop) (S : World → Prop) (L fuel : Nat) (listed : Array Bool) (a : Go.Act) (w : World) (rs : List Nat) : Prop :=
 ∀ i ∈ rs, wpOp P ops Q i (fun a' w' => (i ≠ L → S w') ∧ wpAnyL P md ops Q S L fuel (listed.setIfInBounds i true) a' w') a w
theorem AllReadyL.nil {fuel : Nat} {listed : Array Bool} {a : Go.Act} {w : World} : AllReadyL P md ops Q S L fuel listed a w [] := fun _ h => by cases h
theorem AllReadyL.cons {fuel : Nat} {listed : Array Bool} {a : Go.Act} {w : World} {i : Nat} {o : Oper} {rs : List Nat} (ho : ops[i]? = some o)
  (h : ∀ K' : Go.Act → World → Prop, Shut (∀ a w, S w → (S w → wpAnyL P md ops Q S L fuel (listed.setIfInBounds i true) a w) → K' a w) → if Region.wanted o (yielded ops a.tmps) = true then Oper.wp P o a w K' Q else K' (a.put o.dst undef) w)
  (hs : AllReadyL P md ops Q S L fuel listed a w rs) : AllReadyL P md ops Q S L fuel listed a w (i :: rs) := fun j hj => by
 rcases List.mem_cons.1 hj with rfl | hj
 ·exact wpOp_step ho (fun K' hK => h K' (fun a w hS hW => hK a w ⟨fun _ => hS, hW hS⟩))
 ·exact hs j hj
theorem wpAnyL_ready {rs : List Nat} {fuel : Nat} {listed : Array Bool} {a : Go.Act} {w : World} (hr : Region.ready md ops listed = rs) (hne : rs ≠ [])
  (h : AllReadyL P md ops Q S L fuel listed a w rs) : wpAnyL P md ops Q S L (fuel + 1) listed a w :=
 ⟨fun h0 => absurd (hr ▸ h0) hne, hr ▸ h⟩
/-- The last. -/
theorem wpAnyL_last {o : Oper} {fuel : Nat} {listed : Array Bool} {a : Go.Act} {w : World} (hr : Region.ready md ops listed = [L]) (ho : ops[L]? = some o)
  (h : ∀ K' : Go.Act → World → Prop, Shut (∀ a w, wpAnyL P md ops Q S L fuel (listed.setIfInBounds L true) a w → K' a w) → if Region.wanted o (yielded ops a.tmps) = true then Oper.wp P o a w K' Q else K' (a.put o.dst undef) w) :
  wpAnyL P md ops Q S L (fuel + 1) listed a w := by
 refine ⟨fun h0 => (by rw [hr] at h0; cases h0), fun j hj => ?_⟩
 rw [hr, List.mem_singleton] at hj
 subst hj
 exact wpOp_step ho (fun K' hK => h K' (fun a w hW => hK a w ⟨fun h => absurd rfl h, hW⟩))
theorem wpAnyL_done {listed : Array Bool} {a : Go.Act} {w : World} (hr : Region.ready md ops listed = []) (h : Q .normal a w) :
  ∀ fuel, wpAnyL P md ops Q S L fuel listed a w
 | 0 => ⟨hr, h⟩
 | _ + 1 => ⟨fun _ => h, by rw [hr]; simp⟩
theorem wp_region_L {id : Nat} {a : Go.Act} {w : World} (L : Nat) (hm : P.follows .mixedOrders = true) (hS : S w.drew)
  (h : S w.drew → wpAnyL P .any ops Q S L ops.size (Array.replicate ops.size false) a w.drew) : (Code.region id ops true).wp P Q a w :=
 wp_region_any hm (wpAny_of_L _ _ _ _ (h hS))
/-! Several are taken, one behind the other: their numbers stand in a list, so that one text serves all. -/
/-- What comes next. -/
def Nx (_ : List (Nat × List Nat)) (G : Prop) : Prop := G
theorem Nx.start {G : Prop} (l : List (Nat × List Nat)) (h : Nx l G) : G := h
theorem Nx.stop {G : Prop} (h : G) : Nx [] G := h
theorem Nx.p {i : Nat} {ks : List Nat} {l : List (Nat × List Nat)} {oi : Oper} {v : Value} {fuel : Nat} {listed : Array Bool} {a : Go.Act} {w : World} (hi : ops[i]? = some oi)
  (hc : (Region.noSelect ops && (Region.free md ops listed i && ((Region.ready md ops listed).contains i && (ks.contains L && chainB md ops listed i ks)))) = true)
  (hQ : ∀ c a w, Q (.panic c) (a.put oi.dst v) w → Q (.panic c) a w) (hw : Region.wanted oi (yielded ops a.tmps) = true) (hy : ∀ w, S w → (execOp a.eval oi).run P w = .ok (.value v) w) (hS : S w)
  (h : Nx l (wpAnyL P md ops Q S L fuel (listed.setIfInBounds i true) (a.put oi.dst v) w)) : Nx ((i, ks) :: l) (wpAnyL P md ops Q S L (fuel + 1) listed a w) := by
 simp only [Bool.and_eq_true] at hc
 exact wpAnyL_takeP ks hi hc.1 hc.2.1 hc.2.2.1 (by rw [hc.2.2.2.1, hc.2.2.2.2]; rfl) hQ (.inl ⟨hw, hy⟩) hS h
theorem Nx.l {i : Nat} {ks : List Nat} {l : List (Nat × List Nat)} {oi : Oper} {v : Value} {fuel : Nat} {listed : Array Bool} {a : Go.Act} {w : World} (hi : ops[i]? = some oi)
  (hc : (Region.noSelect ops && (Region.free md ops listed i && ((Region.ready md ops listed).contains i && waits md ops L i))) = true)
  (hQ : ∀ c a w, Q (.panic c) (a.put oi.dst v) w → Q (.panic c) a w) (hw : Region.wanted oi (yielded ops a.tmps) = true) (hy : ∀ w, S w → (execOp a.eval oi).run P w = .ok (.value v) w) (hS : S w)
  (h : Nx l (wpAnyL P md ops Q S L fuel (listed.setIfInBounds i true) (a.put oi.dst v) w)) : Nx ((i, ks) :: l) (wpAnyL P md ops Q S L (fuel + 1) listed a w) := by
 simp only [Bool.and_eq_true] at hc
 exact wpAnyL_take hi hc.1 hc.2.1 hc.2.2.1 hc.2.2.2 hQ (.inl ⟨hw, hy⟩) hS h
theorem Nx.h {i : Nat} {ks : List Nat} {l : List (Nat × List Nat)} {oi : Oper} {v : Value} {fuel : Nat} {listed : Array Bool} {a : Go.Act} {w : World} (hi : ops[i]? = some oi)
  (hc : (Region.noSelect ops && (Region.free md ops listed i && (Region.ready md ops listed).contains i)) = true)
  (hQ : ∀ c a w, Q (.panic c) (a.put oi.dst v) w → Q (.panic c) a w) (hw : Region.wanted oi (yielded ops a.tmps) = true) (hy : ∀ w, S w → (execOp a.eval oi).run P w = .ok (.value v) w) (hS : S w)
  (h : Nx l (wpAnyH P md ops Q S fuel (listed.setIfInBounds i true) (a.put oi.dst v) w)) : Nx ((i, ks) :: l) (wpAnyH P md ops Q S (fuel + 1) listed a w) := by
 simp only [Bool.and_eq_true] at hc
 exact wpAnyH_take hi hc.1 hc.2.1 hc.2.2 hQ (.inl ⟨hw, hy⟩) hS h
end
end Go.Proofs.YtbcoejmiihgfoaaDoor

/-! A region that draws its order: what its loads read need not hold from a certain store on. -/
namespace Go.Proofs.YtbcoejmiihgfoaaDoor
open Go

section
variable {P : Program} {ops : Array Oper} {Q : Exit → Go.Act → World → Prop} {md : Region.Mode} {S : World → Prop} {L : Nat}
/-- In whatever order; S holds behind each operation till L has come up. -/
def wpAnyM (P : Program) (md : Region.Mode) (ops : Array Oper) (Q : Exit → Go.Act → World → Prop) (S : World → Prop) (L : Nat) : Nat → Array Bool → Go.Act → World → Prop
 | 0, listed, a, w => Region.ready md ops listed = [] ∧ Q .normal a w
 | fuel + 1, listed, a, w =>
  (Region.ready md ops listed = [] → Q .normal a w) ∧
  ∀ i ∈ Region.ready md ops listed, wpOp P ops Q i (fun a' w' => ((i ≠ L ∧ listed.getD L true = false) → S w') ∧ wpAnyM P md ops Q S L fuel (listed.setIfInBounds i true) a' w') a w
theorem wpAny_of_M : ∀ (fuel : Nat) (listed : Array Bool) (a : Go.Act) (w : World), wpAnyM P md ops Q S L fuel listed a w → wpAny P md ops Q fuel listed a w
 | 0, _, _, _, h => h
 | fuel + 1, _, _, _, h => ⟨h.1, fun i hi => wpOp_mono (fun a' w' h' => wpAny_of_M fuel _ a' w' h'.2) (h.2 i hi)⟩
theorem chainB_L {listed : Array Bool} : ∀ (ks : List Nat) (i : Nat), chainB md ops listed i ks = true → ∀ k ∈ ks, listed.getD k true = false
 | [], _, _, _, hk => by cases hk
 | q :: ks, i, h, k, hk => by
  unfold chainB at h
  rw [Bool.and_eq_true, Bool.and_eq_true, beq_iff_eq] at h
  rcases List.mem_cons.1 hk with rfl | hk
  ·exact h.1.1
  ·exact chainB_L ks q h.2 k hk
theorem wpAnyM_firstP {i : Nat} {oi : Oper} {v : Value} (hi : ops[i]? = some oi) (hsel : ∀ (j : Nat) (o : Oper) cs b, ops[j]? = some o → o.op ≠ .select cs b)
  (hQ : ∀ c a w, Q (.panic c) (a.put oi.dst v) w → Q (.panic c) a w) (ks : List Nat) (hL : L ∈ ks) :
  ∀ (fuel : Nat) (listed : Array Bool) (a : Go.Act) (w : World), chainB md ops listed i ks = true →
   (∀ j oj, ops[j]? = some oj → j ≠ i → listed.getD j true = false → (∀ e ∈ oj.after, Region.binds md e = true → e.on ≠ i) → oi.apart ops oj = true) →
   i ∈ Region.ready md ops listed → YieldsIf P ops S oi v a → S w →
   wpAnyM P md ops Q S L fuel (listed.setIfInBounds i true) (a.put oi.dst v) w → wpAnyM P md ops Q S L (fuel + 1) listed a w := by
 intro fuel
 induction fuel with
 | zero =>
  intro listed a w _ _ hr hy hS H
  refine ⟨fun h => (by rw [h] at hr; cases hr), fun j hj => ?_⟩
  by_cases hji : j = i
  ·subst hji; exact hy.wpOp hi hS ⟨fun _ => hS, H⟩
  ·have := ready_mono hj hji
   rw [H.1] at this
   cases this
 | succ fuel ih =>
  intro listed a w hch hfree hr hy hS H
  refine ⟨fun h => (by rw [h] at hr; cases hr), fun j hj => ?_⟩
  by_cases hji : j = i
  ·subst hji; exact hy.wpOp hi hS ⟨fun _ => hS, H⟩
  ·have h1 := H.2 j (ready_mono hj hji)
   have hun := (mem_ready.1 hr).1
   obtain ⟨hjun, oj, hoj, hall⟩ := mem_ready.1 hj
   have hnot : ∀ e ∈ oj.after, Region.binds md e = true → e.on ≠ i := fun e he hb heq => by
    have h1 := hall e he hb
    have h0 := (mem_ready.1 hr).1
    rw [heq] at h1
    rcases Nat.lt_or_ge i listed.size with h' | h'
    ·simp [h'] at h0 h1; rw [h0] at h1; cases h1
    ·simp [Array.getElem?_eq_none h'] at h1
   obtain ⟨hks, hch2⟩ := chainB_step hj ks i hun hch
   have hjL : j ≠ L := fun e => hks L hL e.symm
   have h2 := wpOp_putIf hoj (hfree j oj hoj hji hjun hnot) (fun cs b => hsel i oi cs b hi) (fun cs b => hsel j oj cs b hoj) hQ hy h1
   have hfree' : ∀ k ok, ops[k]? = some ok → k ≠ i → (listed.setIfInBounds j true).getD k true = false →
     (∀ e ∈ ok.after, Region.binds md e = true → e.on ≠ i) → oi.apart ops ok = true := fun k ok hk hki hun hno => by
    refine hfree k ok hk hki ?_ hno
    by_cases hjk : j = k
    ·subst hjk; exact hjun
    ·rw [getD_set_ne true hjk] at hun; exact hun
   have hLu' : (listed.setIfInBounds i true).getD L true = false := by
    have hLu := chainB_L ks i hch L hL
    have hiL : i ≠ L := fun e => (chainB_step hr ks i (mem_ready.1 hr).1 hch).1 L hL e.symm
    rw [getD_set_ne true hiL]
    exact hLu
   refine wpOp_mono (fun a' w' h3 => ⟨fun _ => h3.2.1 ⟨hjL, hLu'⟩, ih (listed.setIfInBounds j true) a' w' hch2 hfree' (ready_mono hr (Ne.symm hji)) h3.1 (h3.2.1 ⟨hjL, hLu'⟩) ?_⟩) h2
   rw [Array.setIfInBounds_comm _ _ hji]
   exact h3.2.2
/-- Number i is taken first; the last one waits for it by a chain. -/
theorem wpAnyM_takeP {i : Nat} (ks : List Nat) {oi : Oper} {v : Value} {fuel : Nat} {listed : Array Bool} {a : Go.Act} {w : World} (hi : ops[i]? = some oi)
  (hs : Region.noSelect ops = true) (hf : Region.free md ops listed i = true) (hr : (Region.ready md ops listed).contains i = true) (hL : (ks.contains L && chainB md ops listed i ks) = true)
  (hQ : ∀ c a w, Q (.panic c) (a.put oi.dst v) w → Q (.panic c) a w) (hy : YieldsIf P ops S oi v a) (hS : S w)
  (h : wpAnyM P md ops Q S L fuel (listed.setIfInBounds i true) (a.put oi.dst v) w) : wpAnyM P md ops Q S L (fuel + 1) listed a w := by
 rw [Bool.and_eq_true] at hL
 exact wpAnyM_firstP hi (Region.noSelect_spec hs) hQ ks (by simpa using hL.1) fuel listed a w hL.2 (Region.free_spec hi hf) (by simpa using hr) hy hS h
/-- The one that may come up, but the last; S is to be shown behind it. -/
theorem wpAnyM_one {i : Nat} {o : Oper} {fuel : Nat} {listed : Array Bool} {a : Go.Act} {w : World} (hr : Region.ready md ops listed = [i]) (ho : ops[i]? = some o)
  (h : ∀ K' : Go.Act → World → Prop, Shut (∀ a w, S w → (S w → wpAnyM P md ops Q S L fuel (listed.setIfInBounds i true) a w) → K' a w) → if Region.wanted o (yielded ops a.tmps) = true then Oper.wp P o a w K' Q else K' (a.put o.dst undef) w) :
  wpAnyM P md ops Q S L (fuel + 1) listed a w := by
 refine ⟨fun h0 => (by rw [hr] at h0; cases h0), fun j hj => ?_⟩
 rw [hr, List.mem_singleton] at hj
 subst hj
 exact wpOp_step ho (fun K' hK => h K' (fun a w hS hW => hK a w ⟨fun _ => hS, hW hS⟩))
/-- Several may come up, none of them the last. -/
def AllReadyM (P : Program) (md : Region.Mode) (ops : Array Oper) (Q : Exit → Go.Act → World → Prop) (S : World → Prop) (L fuel : Nat) (listed : Array Bool) (a : Go.Act) (w : World) (rs : List Nat) : Prop :=
 ∀ i ∈ rs, wpOp P ops Q i (fun a' w' => ((i ≠ L ∧ listed.getD L true = false) → S w') ∧ wpAnyM P md ops Q S L fuel (listed.setIfInBounds i true) a' w') a w
theorem AllReadyM.nil {fuel : Nat} {listed : Array Bool} {a : Go.Act} {w : World} : AllReadyM P md ops Q S L fuel listed a w [] := fun _ h => by cases h
theorem AllReadyM.cons {fuel : Nat} {listed : Array Bool} {a : Go.Act} {w : World} {i : Nat} {o : Oper} {rs : List Nat} (ho : ops[i]? = some o)
  (h : ∀ K' : Go.Act → World → Prop, Shut (∀ a w, S w → (S w → wpAnyM P md ops Q S L fuel (listed.setIfInBounds i true) a w) → K' a w) → if Region.wanted o (yielded ops a.tmps) = true then Oper.wp P o a w K' Q else K' (a.put o.dst undef) w)
  (hs : AllReadyM P md ops Q S L fuel listed a w rs) : AllReadyM P md ops Q S L fuel listed a w (i :: rs) := fun j hj => by
 rcases List.mem_cons.1 hj with rfl | hj
 ·exact wpOp_step ho (fun K' hK => h K' (fun a w hS hW => hK a w ⟨fun _ => hS, hW hS⟩))
 ·exact hs j hj
theorem wpAnyM_ready {rs : List Nat} {fuel : Nat} {listed : Array Bool} {a : Go.Act} {w : World} (hr : Region.ready md ops listed = rs) (hne : rs ≠ [])
  (h : AllReadyM P md ops Q S L fuel listed a w rs) : wpAnyM P md ops Q S L (fuel + 1) listed a w :=
 ⟨fun h0 => absurd (hr ▸ h0) hne, hr ▸ h⟩
/-- The last. -/
theorem wpAnyM_last {o : Oper} {fuel : Nat} {listed : Array Bool} {a : Go.Act} {w : World} (hr : Region.ready md ops listed = [L]) (ho : ops[L]? = some o)
  (h : ∀ K' : Go.Act → World → Prop, Shut (∀ a w, wpAnyM P md ops Q S L fuel (listed.setIfInBounds L true) a w → K' a w) → if Region.wanted o (yielded ops a.tmps) = true then Oper.wp P o a w K' Q else K' (a.put o.dst undef) w) :
  wpAnyM P md ops Q S L (fuel + 1) listed a w := by
 refine ⟨fun h0 => (by rw [hr] at h0; cases h0), fun j hj => ?_⟩
 rw [hr, List.mem_singleton] at hj
 subst hj
 exact wpOp_step ho (fun K' hK => h K' (fun a w hW => hK a w ⟨fun h => absurd rfl h.1, hW⟩))
/-- One behind the last. -/
theorem wpAnyM_after {i : Nat} {o : Oper} {fuel : Nat} {listed : Array Bool} {a : Go.Act} {w : World} (hr : Region.ready md ops listed = [i]) (hL : listed.getD L true = true) (ho : ops[i]? = some o)
  (h : ∀ K' : Go.Act → World → Prop, Shut (∀ a w, wpAnyM P md ops Q S L fuel (listed.setIfInBounds i true) a w → K' a w) → if Region.wanted o (yielded ops a.tmps) = true then Oper.wp P o a w K' Q else K' (a.put o.dst undef) w) :
  wpAnyM P md ops Q S L (fuel + 1) listed a w := by
 refine ⟨fun h0 => (by rw [hr] at h0; cases h0), fun j hj => ?_⟩
 rw [hr, List.mem_singleton] at hj
 subst hj
 exact wpOp_step ho (fun K' hK => h K' (fun a w hW => hK a w ⟨(fun h => by rw [hL] at h; exact absurd h.2 (by simp)), hW⟩))
theorem wpAnyM_done {listed : Array Bool} {a : Go.Act} {w : World} (hr : Region.ready md ops listed = []) (h : Q .normal a w) :
  ∀ fuel, wpAnyM P md ops Q S L fuel listed a w
 | 0 => ⟨hr, h⟩
 | _ + 1 => ⟨fun _ => h, by rw [hr]; simp⟩
theorem wp_region_M {id : Nat} {a : Go.Act} {w : World} (L : Nat) (hm : P.follows .mixedOrders = true) (hS : S w.drew)
  (h : S w.drew → wpAnyM P .any ops Q S L ops.size (Array.replicate ops.size false) a w.drew) : (Code.region id ops true).wp P Q a w :=
 wp_region_any hm (wpAny_of_M _ _ _ _ (h hS))
end
end Go.Proofs.YtbcoejmiihgfoaaDoor
