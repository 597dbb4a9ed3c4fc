/- model's words(): what can be reached from the frames. -/
import Derived.Test.YtojobkhidlfeoaaGreatDoorPkA
import Derived.Test.YtojobkhidlfeoaaGreatDoorMwV
import Derived.Test.YtojobkhidlfeoaaGreatDoorBools
namespace Go.Proofs.YtojobkhidlfeoaaGreatDoor
open Go.RowKit

theorem len_leM : ∀ (n : Nat) (l : List Nat), l.Nodup → (∀ r ∈ l, r < n) → l.length ≤ n := by
 intro n
 induction n with
 | zero =>
  intro l _ h
  cases l with
  | nil => simp
  | cons a t => have := h a (by simp); omega
 | succ n ih =>
  intro l hn h
  have h1 := ih (l.erase n) (hn.erase _) (fun r hr => by
   have h2 := (hn.mem_erase_iff).1 hr
   have h3 := h r h2.2
   have h4 := h2.1
   omega)
  have h2 : l.length ≤ (l.erase n).length + 1 := by
   rw [List.length_erase]
   split <;> omega
  omega
theorem under_ok {p : Prg} {ss : List Lk} {n : Nat} : ∀ {fs : List Fm} {m : Nat}, Under p ss n fs m → ∀ f ∈ fs, ∃ t, f.Ok p ss n t
 | [], _, _, f, hf => by cases hf
 | g :: below, _, h, f, hf => by
  rcases List.mem_cons.1 hf with rfl | hf
  ·exact ⟨_, h.1⟩
  ·exact under_ok h.2 f hf
theorem Mc.Ok.frok {p : Prg} {ss : List Lk} {S : Mc} (h : S.Ok p ss) : ∀ f ∈ S.frs, ∃ t, f.Ok p ss S.objs.length t := by
 intro f hf
 cases hs : S.frs with
 | nil => rw [hs] at hf; cases hf
 | cons g below =>
  obtain ⟨h1, h2⟩ := h.top g below hs
  rw [hs] at hf
  rcases List.mem_cons.1 hf with rfl | hf
  ·exact ⟨_, h1⟩
  ·exact under_ok h2 f hf
theorem Vf.loc {p : Prg} {ss : List Lk} (v : Vf p ss) {f : Fm} {n : Nat} {t : List UInt8} (h : f.Ok p ss n t) : f.loc.length ≤ 24 ∧ (p.ms.getD f.m default).params.size ≤ 12 ∧ (p.ms.getD f.m default).locals.size ≤ 12 ∧ 0 < (p.ms.getD f.m default).code.length ∧ (p.ms.getD f.m default).code.length ≤ 120 := by
 have h1 := v.ok.meth f.m h.m
 have h2 : (kds f.loc).length = f.loc.length := kds_len _
 rw [h.loc] at h2
 unfold headCode at h1
 split at h1
 ·cases h1
 ·rename_i h3
  unfold kindsL at h2
  rw [List.length_append] at h2
  have e1 : ∀ b : ByteArray, b.toList.length = b.size := fun b => by exact (size_list b).symm
  rw [e1, e1] at h2
  omega
/-- An object's words. -/
theorem ow_ok {p : Prg} {n : Nat} {o : Ob} (h : o.Ok p n) : p.ow o = 2 + o.vals.length ∧ p.ow o ≤ 52 := by
 have hl := h.len
 have hk : (kds o.vals).length = o.vals.length := kds_len _
 rw [h.kinds] at hk
 unfold Prg.lets at hk
 unfold Prg.ow
 by_cases hc : 0 ≤ o.cls
 ·rw [if_pos hc, ← size_list] at hk
  rw [if_pos ⟨hc, h.hi⟩, hk]
  omega
 ·rw [if_neg (by omega)]
  omega
theorem sumS_le {p : Prg} {S : Mc} {f : Nat → Bool} (h : ∀ o ∈ S.objs, p.ow o ≤ 52 ∧ 0 ≤ p.ow o) : sumS p S f ≤ 52 * S.objs.length := by
 unfold sumS
 have key : ∀ n, n ≤ S.objs.length → ((List.range n).map fun i => if f i then p.ow (S.objs.getD i default) else 0).sum ≤ 52 * n := by
  intro n
  induction n with
  | zero => intro _; simp
  | succ n ih =>
   intro hn
   rw [List.range_succ, List.map_append, List.sum_append]
   simp only [List.map_cons, List.map_nil, List.sum_cons, List.sum_nil]
   have h1 := ih (by omega)
   have h2 := h _ (getD_mem (show n < S.objs.length by omega))
   split <;> omega
 exact key _ (Nat.le_refl _)

set_option maxRecDepth 100000 in
set_option maxHeartbeats 1000000 in
theorem pwords_any (cs : List ByteArray) (cv : Value) (ma : Option Addr) (ml mc : Nat) (c : Int) (n : Nat) (w : World) (hc : ClassAt w cv cs) (hsz : ∀ j, (cs.getD j ByteArray.empty).size ≤ 100) (hn : n ≤ 1000) :
  Calls Tryz.prog 94 #[.agg #[cv, .slice ma ml mc], .int .i64 c, .int .i64 n] w fun e w' => e = .returned (.int .i64 (2 + (if 0 ≤ c ∧ c < cs.length then ((cs.getD c.toNat ByteArray.empty).size : Int) else (n : Int)))) ∧ Upd [] w w' := by
 obtain ⟨ans, hans⟩ : ∃ ans : Int, (2 + (if 0 ≤ c ∧ c < cs.length then ((cs.getD c.toNat ByteArray.empty).size : Int) else (n : Int))) = ans := ⟨_, rfl⟩
 rw [hans]
 obtain ⟨ca, cc, rfl, _, _, _, hx⟩ := hc
 have hu := (Upd.refl [] w).alloc (.cells #[.slice ca cs.length cc, .slice ma ml mc] 25)
 have hb := heap_alloc_new w (.cells #[.slice ca cs.length cc, .slice ma ml mc] 25)
 have HX := Lib.hid hx
 have HU := Lib.hid hu
 have HA := Lib.hid hans
 have HSZ := Lib.hid hsz
 clear hx hu hans hsz
 go_enter Tryz.func94, Tryz.ntmps94
 go_upto_region 1 with fail
 generalize w.alloc (.cells #[.slice ca cs.length cc, .slice ma ml mc] 25) = w1 at hb HU ⊢
 have c0 : w1.cell? ⟨w.heap.size, 0, none⟩ = some (.slice ca cs.length cc) := by rw [cell_of hb]; rfl
 obtain ⟨bo, hbo⟩ : ∃ bo, decide (0 ≤ c ∧ c < (cs.length : Int)) = bo := ⟨_, rfl⟩
 have HBO := Lib.hid hbo
 have HIN : Hid (Calls Tryz.prog 104 #[.int .i64 c, .int .i64 (cs.length : Int)] w1 fun e w' => e = .returned (.bool bo) ∧ w1 = w') := by
  by_cases h0 : 0 ≤ c
  ·have d0 : decide (0 ≤ c) = true := decide_eq_true h0
   have d1 : decide (c < (cs.length : Int)) = bo := by
    rw [← hbo]
    simp [h0]
   clear h0 hbo HA
   go_enter Tryz.func104, Tryz.ntmps104
   go_wp2_with fail
   go_ret
   exact ⟨rfl, rfl⟩
  ·have d0 : decide (0 ≤ c) = false := decide_eq_false h0
   have d1 : bo = false := by
    rw [← hbo]
    simp [h0]
   subst d1
   clear h0 hbo HA
   go_enter Tryz.func104, Tryz.ntmps104
   go_wp2_with fail
   go_ret
   exact ⟨rfl, rfl⟩
 clear hbo
 go_wp2_with fail
 refine HIN.out.mono ?_
 rintro e w' ⟨rfl, rfl⟩
 cases bo with
 | true =>
  have h : 0 ≤ c ∧ c < (cs.length : Int) := of_decide_eq_true HBO.out
  obtain ⟨k, rfl⟩ : ∃ k : Nat, c = (k : Int) := ⟨c.toNat, by omega⟩
  have hk : k < cs.length := by omega
  obtain ⟨b, o, hpe, _, hcell⟩ := HX.out k hk
  subst hpe
  have hc2 := HU.out.cell hcell (by simp)
  have ha := HA.out
  rw [if_pos h, Int.toNat_natCast] at ha
  have hs := HSZ.out k
  generalize cs.getD k ByteArray.empty = s at hc2 ha hs
  have s1 : IntKind.i64.wrap (2 + (s.size : Int)) = ans := by rw [← ha]; exact IntWalk.i64_in _ (by omega)
  clear h hcell HIN ha
  go_wp2_with fail
  go_ret
  exact ⟨rfl, HU.out⟩
 | false =>
  have h : ¬ (0 ≤ c ∧ c < (cs.length : Int)) := of_decide_eq_false HBO.out
  have ha := HA.out
  rw [if_neg h] at ha
  have s1 : IntKind.i64.wrap (2 + (n : Int)) = ans := by rw [← ha]; exact IntWalk.i64_in _ (by omega)
  clear h HIN ha
  go_wp2_with fail
  go_ret
  exact ⟨rfl, HU.out⟩
end Go.Proofs.YtojobkhidlfeoaaGreatDoor
