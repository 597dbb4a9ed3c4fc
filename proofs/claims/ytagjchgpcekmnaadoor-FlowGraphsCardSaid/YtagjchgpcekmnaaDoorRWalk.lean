/- overdriveref5.Walk: the document's walk. -/
import Derived.Test.YtagjchgpcekmnaaDoorEnter
import Derived.Test.YtagjchgpcekmnaaDoorRClean
import Derived.Test.YtagjchgpcekmnaaDoorOrder
import Derived.Deep.QuietTactic
import Derived.BigQuiet
namespace Go.Proofs.YtagjchgpcekmnaaDoor
open Go.RowKit

/-- The walk's memory at its beginning. -/
theorem em_start {w : World} {hw hs ho B : Nat} {cv : Value} {cvs : List Value} {c : List (List Nat)} (h0 : 0 < c.length)
    (h1 : w.heap[hw]? = some (.cells #[cv, .slice (some ⟨hs, 0, none⟩) c.length c.length, .slice (some ⟨ho, 0, none⟩) c.length c.length, .slice none 0 0, .slice none 0 0] 76))
    (h2 : w.heap[hs]? = some (.cells (bcells (List.replicate c.length false)) 4)) (h3 : w.heap[ho]? = some (.cells (bcells (List.replicate c.length false)) 4)) (hne : hs ≠ ho) (hc : OwnR w B cv cvs (intsL c)) :
    EM w w hw hs ho c.length cv (butF (seF (Dfs.init c.length).st) 0) (butF (opF (Dfs.init c.length).st) 0) [] [] (.slice none 0 0) (.slice none 0 0) [] ∧ GrAt w hw hs ho cv c := by
  have hst : ∀ j, (Dfs.init c.length).st.getD j 0 = if j = 0 then 1 else 0 := fun j => by
    unfold Dfs.init
    simp only
    by_cases e : j = 0
    · subst e; rw [getD_set_eq _ _ _ _ (by simpa using h0), if_pos rfl]
    · rw [getD_set_ne _ _ _ _ _ (fun e2 => e e2.symm), if_neg e]
      simp only [List.getD_eq_getElem?_getD, List.getElem?_replicate]
      split <;> rfl
  have hz : List.replicate c.length false = tabB c.length (fun _ => false) := by
    unfold tabB
    apply List.ext_getElem
    · simp
    · intro i a b; simp
  have e1 : ∀ i, butF (seF (Dfs.init c.length).st) 0 i = false := fun i => by
    unfold butF seF
    rw [hst]
    by_cases e : i = 0 <;> simp [e]
  have e2 : ∀ i, butF (opF (Dfs.init c.length).st) 0 i = false := fun i => by
    unfold butF opF
    rw [hst]
    by_cases e : i = 0 <;> simp [e]
  have n1 : hw ≠ hs := fun e => by rw [e, h2] at h1; injection h1 with h1; injection h1 with _ h1 _; exact absurd h1 (by decide)
  have n2 : hw ≠ ho := fun e => by rw [e, h3] at h1; injection h1 with h1; injection h1 with _ h1 _; exact absurd h1 (by decide)
  refine ⟨⟨Upd.refl _ _, h1, ?_, ?_, OwnI.nil _ _ _, World.ownsRow_nil _ _ _ _, rfl, fun i hi => by simp at hi, fun i hi => by simp at hi, ⟨lt_of_heap h1, lt_of_heap h2, lt_of_heap h3⟩, n1, n2, hne⟩, ?_⟩
  · rw [show butF (seF (Dfs.init c.length).st) 0 = fun _ => false from funext e1, ← hz]; exact h2
  · rw [show butF (opF (Dfs.init c.length).st) 0 = fun _ => false from funext e2, ← hz]; exact h3
  · have hlen : (intsL c).length = c.length := intsL_len c
    obtain ⟨p, cc, rfl, _⟩ := hc.form
    obtain ⟨gc, e, _⟩ := hc.cell 0 (by rw [hlen]; exact h0)
    subst e
    refine ⟨gc, cc, by rw [hlen], fun w' hu i hi => ?_⟩
    have hc' : OwnR w' B (.slice (some ⟨gc, 0, none⟩) (intsL c).length cc) cvs (intsL c) := hc.upd hu (fun k hk hm => by
      simp only [List.mem_cons, List.not_mem_nil, or_false] at hm
      rcases hm with rfl | rfl | rfl
      · exact own_heap_ne hc.row h1 (by decide) hk
      · exact own_heap_ne hc.row h2 (by decide) hk
      · exact own_heap_ne hc.row h3 (by decide) hk) (fun j hj k hk hm => by
      simp only [List.mem_cons, List.not_mem_nil, or_false] at hm
      rcases hm with rfl | rfl | rfl
      · exact own_heap_ne (hc.own j hj) h1 (by decide) hk
      · exact own_heap_ne (hc.own j hj) h2 (by decide) hk
      · exact own_heap_ne (hc.own j hj) h3 (by decide) hk)
    obtain ⟨gc2, e, _, _, hcell⟩ := hc'.cell i (by rw [hlen]; exact hi)
    injection e with e
    injection e with e _ _
    subst e
    have ho' := hc'.own i (by rw [hlen]; exact hi)
    rw [intsL_get] at ho'
    obtain ⟨rp, rc, hv⟩ := ho'.shape
    rw [hv] at hcell ho'
    rw [ints_len] at hcell ho'
    refine ⟨rp, rc, hcell, fun q hq => ?_⟩
    have ho2 : OwnI w' B 3 (.slice rp (ints (c.getD i [])).length rc) (ints (c.getD i [])) := by rw [ints_len]; exact ho'
    obtain ⟨rb, rc2, e1', _, _, hy⟩ := ho2.nth q (by rw [ints_len]; exact hq)
    injection e1' with e1' _ _
    refine ⟨rb, e1', ?_⟩
    rw [hy, ints_get _ _ hq]
theorem em_loops {w0 w : World} {hw hs ho n : Nat} {cv : Value} {se op : Nat → Bool} {post : List Nat} {back : List (Nat × Nat)} {lv bv : Value} {bs : List Nat} (h : EM w0 w hw hs ho n cv se op post back lv bv bs) : RowsZ w bv (back.map pairL) := by
  obtain ⟨p, c, rfl, hm⟩ := row_pl4' h.loops
  have hbl := h.bln
  refine ⟨p, c, by simp [hbl], by simp; omega, fun i hi => ?_⟩
  have hi2 : i < bs.length := by simp at hi; omega
  rcases h.loops.2 with ⟨h1, h2⟩ | ⟨gk, ck, _, h1, _⟩
  · omega
  · injection h1 with h1 _ _
    subst h1
    have h3 := h.loops.cells (g := gk) rfl i (pairV (bs.getD i 0)) (by
      rw [List.getElem?_map, List.getElem?_eq_getElem hi2, List.getD_eq_getElem?_getD, List.getElem?_eq_getElem hi2]; rfl)
    rw [Addr.add_lit, Nat.zero_add] at h3
    refine ⟨gk, _, bs.getD i 0, rfl, h3, ?_⟩
    have hb : i < back.length := by omega
    have e : (back.map pairL).getD i [] = pairL (back.getD i (0, 0)) := by simp [List.getD_eq_getElem?_getD, hb]
    rw [e]
    refine ⟨.inr ⟨2, rfl⟩, fun q hq => ?_⟩
    rw [cell_of (h.pair i hi2).1]
    exact icells_get _ _ hq

/-- The walk's memory, as it is made, in whatever order. -/
def WalkPre (g : List (List Int)) (w wx : World) (pv : Value) : Prop :=
  ∃ hw hs ho B cv cvs, pv = .pointer (some ⟨hw, 0, none⟩) ∧ wx.heap[hw]? = some (.cells #[cv, .slice (some ⟨hs, 0, none⟩) g.length g.length, .slice (some ⟨ho, 0, none⟩) g.length g.length, .slice none 0 0, .slice none 0 0] 76) ∧
    wx.heap[hs]? = some (.cells (bcells (List.replicate g.length false)) 4) ∧ wx.heap[ho]? = some (.cells (bcells (List.replicate g.length false)) 4) ∧ hs ≠ ho ∧ OwnR wx B cv cvs (intsL (cleanG g)) ∧ Upd [] w wx ∧ w.heap.size ≤ hw ∧ w.heap.size ≤ hs ∧ w.heap.size ≤ ho
theorem pre_of {g : List (List Int)} {w w1 w2 : World} {B hs ho : Nat} {cv : Value} {cvs : List Value} (hO : OwnR w1 B cv cvs (intsL (cleanG g))) (hu0 : Upd [] w w1) (hu : Upd [] w1 w2)
    (hs' : w2.heap[hs]? = some (.cells (bcells (List.replicate g.length false)) 4)) (ho' : w2.heap[ho]? = some (.cells (bcells (List.replicate g.length false)) 4)) (hne : hs ≠ ho) (l1 : w.heap.size ≤ hs) (l2 : w.heap.size ≤ ho) :
    WalkPre g w (w2.alloc (.cells #[cv, .slice (some ⟨hs, 0, none⟩) g.length g.length, .slice (some ⟨ho, 0, none⟩) g.length g.length, .slice none 0 0, .slice none 0 0] 76)) (.pointer (some ⟨w2.heap.size, 0, none⟩)) := by
  have ha := (Upd.refl [] w2).alloc (.cells #[cv, .slice (some ⟨hs, 0, none⟩) g.length g.length, .slice (some ⟨ho, 0, none⟩) g.length g.length, .slice none 0 0, .slice none 0 0] 76)
  exact ⟨_, hs, ho, B, cv, cvs, rfl, heap_alloc_new _ _, ha.heap hs' (by simp), ha.heap ho' (by simp), hne, hO.upd (hu.trans ha) (by simp) (by simp), (hu0.trans hu).trans ha, (hu0.trans hu).size, l1, l2⟩
theorem pre_two {g : List (List Int)} {w w1 : World} {B : Nat} {cv : Value} {cvs : List Value} (hO : OwnR w1 B cv cvs (intsL (cleanG g))) (hu0 : Upd [] w w1) (o : Obj) (ho : o = .cells (bcells (List.replicate g.length false)) 4) :
    WalkPre g w (((w1.alloc o).alloc o).alloc (.cells #[cv, .slice (some ⟨w1.heap.size, 0, none⟩) g.length g.length, .slice (some ⟨w1.heap.size + 1, 0, none⟩) g.length g.length, .slice none 0 0, .slice none 0 0] 76)) (.pointer (some ⟨w1.heap.size + 1 + 1, 0, none⟩)) ∧
    WalkPre g w (((w1.alloc o).alloc o).alloc (.cells #[cv, .slice (some ⟨w1.heap.size + 1, 0, none⟩) g.length g.length, .slice (some ⟨w1.heap.size, 0, none⟩) g.length g.length, .slice none 0 0, .slice none 0 0] 76)) (.pointer (some ⟨w1.heap.size + 1 + 1, 0, none⟩)) := by
  have h1 := ((Upd.refl [] (w1.alloc o)).alloc o).heap (heap_alloc_new w1 o) (by simp)
  have h2 := heap_alloc_new (w1.alloc o) o
  rw [World.size_alloc] at h2
  have hz : ((w1.alloc o).alloc o).heap.size = w1.heap.size + 1 + 1 := by simp
  rw [← hz]
  have hu := ((Upd.refl [] w1).alloc o).alloc o
  exact ⟨pre_of hO hu0 hu (by rw [h1, ho]) (by rw [h2, ho]) (by omega) (by have := hu0.size; omega) (by have := hu0.size; omega), pre_of hO hu0 hu (by rw [h2, ho]) (by rw [h1, ho]) (by omega) (by have := hu0.size; omega) (by have := hu0.size; omega)⟩
theorem pre_one {g : List (List Int)} {w w1 : World} {B : Nat} {cv : Value} {cvs : List Value} (o : Obj) (ho : o = .cells (bcells (List.replicate g.length false)) 4) (hO : OwnR w1 B cv cvs (intsL (cleanG g))) (hu1 : Upd [] (w.drew.alloc o) w1) :
    WalkPre g w ((w1.alloc o).alloc (.cells #[cv, .slice (some ⟨w.heap.size, 0, none⟩) g.length g.length, .slice (some ⟨w1.heap.size, 0, none⟩) g.length g.length, .slice none 0 0, .slice none 0 0] 76)) (.pointer (some ⟨w1.heap.size + 1, 0, none⟩)) ∧
    WalkPre g w ((w1.alloc o).alloc (.cells #[cv, .slice (some ⟨w1.heap.size, 0, none⟩) g.length g.length, .slice (some ⟨w.heap.size, 0, none⟩) g.length g.length, .slice none 0 0, .slice none 0 0] 76)) (.pointer (some ⟨w1.heap.size + 1, 0, none⟩)) := by
  have h0 : w1.heap[w.heap.size]? = some o := hu1.heap (heap_alloc_new w.drew o) (by simp)
  have hlt := lt_of_heap h0
  have h1 := ((Upd.refl [] w1).alloc o).heap h0 (by simp)
  have h2 := heap_alloc_new w1 o
  rw [← World.size_alloc w1 o]
  have hu := (Upd.refl [] w1).alloc o
  have hu0 : Upd [] w w1 := (((Upd.refl [] w).drew).alloc o).trans hu1
  exact ⟨pre_of hO hu0 hu (by rw [h1, ho]) (by rw [h2, ho]) (by omega) (by have := hu0.size; omega) (by have := hu0.size; omega), pre_of hO hu0 hu (by rw [h2, ho]) (by rw [h1, ho]) (by omega) (by have := hu0.size; omega) (by have := hu0.size; omega)⟩
theorem pre_none {g : List (List Int)} {w w1 : World} {B : Nat} {cv : Value} {cvs : List Value} (o : Obj) (ho : o = .cells (bcells (List.replicate g.length false)) 4) (hO : OwnR w1 B cv cvs (intsL (cleanG g))) (hu1 : Upd [] ((w.drew.alloc o).alloc o) w1) :
    WalkPre g w (w1.alloc (.cells #[cv, .slice (some ⟨w.heap.size, 0, none⟩) g.length g.length, .slice (some ⟨w.heap.size + 1, 0, none⟩) g.length g.length, .slice none 0 0, .slice none 0 0] 76)) (.pointer (some ⟨w1.heap.size, 0, none⟩)) ∧
    WalkPre g w (w1.alloc (.cells #[cv, .slice (some ⟨w.heap.size + 1, 0, none⟩) g.length g.length, .slice (some ⟨w.heap.size, 0, none⟩) g.length g.length, .slice none 0 0, .slice none 0 0] 76)) (.pointer (some ⟨w1.heap.size, 0, none⟩)) := by
  have h2' := heap_alloc_new (w.drew.alloc o) o
  rw [World.size_alloc] at h2'
  have h1 : w1.heap[w.heap.size]? = some o := hu1.heap (((Upd.refl [] (w.drew.alloc o)).alloc o).heap (heap_alloc_new w.drew o) (by simp)) (by simp)
  have h2 : w1.heap[w.heap.size + 1]? = some o := hu1.heap h2' (by simp)
  have hu0 : Upd [] w w1 := ((((Upd.refl [] w).drew).alloc o).alloc o).trans hu1
  exact ⟨pre_of hO hu0 (Upd.refl [] w1) (by rw [h1, ho]) (by rw [h2, ho]) (by omega) (by have := hu0.size; omega) (by have := hu0.size; omega), pre_of hO hu0 (Upd.refl [] w1) (by rw [h2, ho]) (by rw [h1, ho]) (by omega) (by have := hu0.size; omega) (by have := hu0.size; omega)⟩

set_option maxRecDepth 100000 in
set_option maxHeartbeats 8000000 in
theorem rwalk_any (v : Value) (g : List (List Int)) (w : World) (h : RowsAt w v g) (hn : g.length ≤ 1000) (hr : ∀ l ∈ g, l.length ≤ 100000) :
    Calls Tryd.prog 22 #[v] w fun e w' => ∃ u bv, e = .returned (.tuple #[u, bv]) ∧ OwnI w' w.heap.size 3 u (ints (dfs (cleanG g)).post.reverse) ∧ RowsZ w' bv ((dfs (cleanG g)).back.map pairL) ∧ Upd [] w w' := by
  obtain ⟨i0, hi, hz0, hz1, hz2⟩ := info_parts Tryd.infoInt
  have HI := Lib.hid hi
  have HZ0 := Lib.hid hz0
  have HZ1 := Lib.hid hz1
  have HZ2 := Lib.hid hz2
  clear hi hz0 hz1 hz2
  have HCL : Hid (∀ W, Upd [] w W → Calls Tryd.prog 39 #[v] W fun e w' => ∃ ov vs, e = .returned ov ∧ OwnR w' W.heap.size ov vs (intsL (cleanG g)) ∧ Upd [] W w') := fun W hW => rclean_any v g W (h.upd hW) (by omega) hr
  have hmk := fun W => make_bools W g.length (by omega)
  obtain ⟨a, cap, rfl, hl, _⟩ := h
  go_enter Tryd.func22, Tryd.ntmps22
  by_cases h0 : g.length = 0
  · have d0 : ((g.length : Int) == 0) = true := by rw [beq_iff_eq]; omega
    have HG : Hid (g = []) := List.eq_nil_of_length_eq_zero h0
    clear h0
    go_wp2_with fail
    go_ret2
    refine ⟨_, _, rfl, ?_, ?_, Upd.refl _ _⟩
    · rw [HG.out]; exact OwnI.nil _ _ _
    · rw [HG.out]; exact ⟨none, 0, rfl, by simp [maxLen, cleanG, dfs], fun i hi => absurd hi (by simp [cleanG, dfs])⟩
  · have d0 : ((g.length : Int) == 0) = false := by rw [beq_eq_false_iff_ne]; omega
    have hg0 : 0 < g.length := by omega
    clear h0
    go_upto_region 3 with fail
    go_cut [4] from 10 to 19 (fun pv wx => Hid (WalkPre g w wx pv))
    case first =>
      go_region_with ((go_at_call 39; refine (HCL.out _ (by first | exact (Upd.refl [] w).drew | exact ((Upd.refl [] w).drew).alloc _ | exact (((Upd.refl [] w).drew).alloc _).alloc _)).mono ?_; rintro e w1 ⟨ov, ovs, rfl, hOR, hu1⟩; obtain ⟨cp, cc, rfl, _⟩ := hOR.form))
      all_goals
        have HP : Hid (Upd [] w w1) := by
          first
            | exact (Upd.refl [] w).drew.trans hu1
            | exact (((Upd.refl [] w).drew).alloc _).trans hu1
            | exact ((((Upd.refl [] w).drew).alloc _).alloc _).trans hu1
        go_wp2_with fail
        go_meet
        first
          | exact (pre_two hOR HP.out _ rfl).1
          | exact (pre_two hOR HP.out _ rfl).2
          | exact (pre_one _ rfl hOR hu1).1
          | exact (pre_one _ rfl hOR hu1).2
          | exact (pre_none _ rfl hOR hu1).1
          | exact (pre_none _ rfl hOR hu1).2
    case rest =>
      have HCUT := Lib.hid hcut.out
      obtain ⟨hw, hs, ho, B, cv, cvs, e, H1, H2, H3, hne, HO, HU, l1, l2, l3⟩ := HCUT.out
      subst e
      have HST := Lib.hid (em_start (c := cleanG g) (by rw [cleanG_len]; exact hg0) (by rw [cleanG_len]; exact H1) (by rw [cleanG_len]; exact H2) (by rw [cleanG_len]; exact H3) hne HO)
      have HUW := Lib.hid HU
      have HGA := Lib.hid HST.out.2
      have HEM := Lib.hid HST.out.1
      have hcl := cleanG_len g
      have hne0 : cleanG g ≠ [] := fun e => by rw [e] at hcl; simp at hcl; omega
      have HCC := Lib.hid (cleanG_clean g)
      have HNE := Lib.hid hne0
      have HEN := Lib.hid (enter_any (cleanG g) HCC.out HNE.out (by omega) wc hw hs ho cv HGA.out _ 0 [] 0 wc _ _ [] rfl rfl (by
        show (List.replicate _ 0).getD 0 0 = 0
        simp only [List.getD_eq_getElem?_getD, List.getElem?_replicate]
        split <;> rfl) HEM.out)
      clear H1 H2 H3 HO HU HCUT hcut HST hmk hne0
      generalize hcg : cleanG g = c at HCC HNE HEN HEM HGA hcl
      have HCG := Lib.hid hcg
      clear hcg
      go_wp2_with fail
      refine HEN.out.mono ?_
      rintro e w5 ⟨rfl, t2, lv, bv, bs, hs2, _, _, hE⟩
      have hrun := run_end HCC.out HNE.out t2 hs2
      rw [hrun] at hE
      have hpl : (dfs c).post.length ≤ c.length := post_len HCC.out HNE.out
      clear hs2 hrun HEN HEM HGA
      generalize hds : dfs c = s at hE hpl
      have HDS := Lib.hid hds
      have HE := Lib.hid hE
      have hb3 : w5.cell? ⟨hw, 3, none⟩ = some lv := by rw [cell_of hE.blk]; rfl
      have hb4 : w5.cell? ⟨hw, 4, none⟩ = some bv := by rw [cell_of hE.blk]; rfl
      have hlf := hE.left
      obtain ⟨lp, lc, hlv⟩ := hlf.shape
      subst hlv
      rw [ints_len] at hb3
      have HU5 : Hid (Upd [] w w5) := HUW.out.trans' hE.upd (fun q hq hlt2 => by
        simp only [List.mem_cons, List.not_mem_nil, or_false] at hq
        omega)
      have HEL : Hid (∀ q, q < s.post.length → ∃ rb, lp = some ⟨rb, 0, none⟩ ∧ w5.cell? ⟨rb, q, none⟩ = some (.int .i64 ((s.post.getD q 0 : Nat) : Int))) := fun q hq => by
        obtain ⟨rb, _, e1, _, _, hy⟩ := hlf.nth q (by rw [ints_len]; exact hq)
        injection e1 with e1 _ _
        exact ⟨rb, e1, by rw [hy, ints_get _ _ hq]⟩
      have HPB : Hid (s.post.length ≤ 1000) := by show _ ≤ _; omega
      have hpb := HPB.out
      have HB3 := Lib.hid hb3
      have HB4 := Lib.hid hb4
      have f1 : IntKind.i64.wrap ((s.post.length : Int) - 1) = (s.post.length : Int) - 1 := IntWalk.i64_in _ (by omega)
      clear hds hE hlf hpl
      go_wp2_with fail
      go_loopw [5, 6] (fun ov iv wr => ∃ m : Nat, m ≤ s.post.length ∧ iv = .int .i64 ((s.post.length : Int) - 1 - (m : Int)) ∧ Hid (OwnI wr w5.heap.size 3 ov (ints (s.post.reverse.take m))) ∧ Hid (Upd [] w5 wr)) (fun _ iv _ => (intOf iv + 1).toNat)
      case atStart => exact ⟨0, by omega, by simp, OwnI.nil _ _ _, Upd.refl _ _⟩
      case round =>
        clear hb3 hb4
        obtain ⟨m, hm, rfl, HO, HU⟩ := hrel
        obtain ⟨wq, rfl⟩ : ∃ wq : World, wq = wr := ⟨_, rfl⟩
        have hb3 := HU.out.cell HB3.out (by simp)
        have hb4 := HU.out.cell HB4.out (by simp)
        have hWq := HU.out.size
        obtain ⟨op, oc, hov⟩ := HO.out.shape
        subst hov
        by_cases hml : m < s.post.length
        · obtain ⟨q, hq⟩ : ∃ q : Nat, s.post.length = q + 1 + m := ⟨s.post.length - 1 - m, by omega⟩
          obtain ⟨rb, e0, hy0⟩ := HEL.out q (by omega)
          subst e0
          have hy := HU.out.cell hy0 (by simp)
          have HTK : Hid (ints (s.post.reverse.take (m + 1)) = ints (s.post.reverse.take m) ++ [((s.post.getD q 0 : Nat) : Int)]) := by
            show _ = _
            rw [← ints_snoc]
            congr 1
            have hmr : m < s.post.reverse.length := by rw [List.length_reverse]; exact hml
            rw [List.take_succ_eq_append_getElem hmr]
            congr 1
            rw [List.getElem_reverse, List.getD_eq_getElem?_getD, List.getElem?_eq_getElem (show q < s.post.length by omega)]
            simp only [Option.getD_some, List.cons.injEq, and_true]
            congr 1
            omega
          have hol : (ints (s.post.reverse.take m)).length ≤ 1000 := by rw [ints_len, List.length_take]; omega
          have e1 : (s.post.length : Int) - 1 - (m : Int) = (q : Int) := by omega
          have e2 : IntKind.i64.wrap ((q : Int) - 1) = (q : Int) - 1 := IntWalk.i64_in _ (by omega)
          have hqn : q < s.post.length := by omega
          have HQ := Lib.hid hq
          rw [e1]
          clear hy0 hq e1
          generalize s.post.getD q 0 = x at hy HTK
          generalize ints (s.post.reverse.take m) = acc at HO HTK hol
          go_wp2_with (at_builtin; refine stop_here ?_)
          refine Hid.mk ?_
          have hcn := cell_of (heap_alloc_new wq (.cells #[.int .i64 (x : Int)] 3))
          refine (wpList_append_own_at _ rfl _ _ 28 rfl w5.heap.size 3 i0 (.int .i64 0) 1 8 Tryd.underlying28 HI.out HZ0.out HZ1.out HZ2.out rfl (by decide) _ _ _ rfl (HO.out.alloc (.cells #[.int .i64 (x : Int)] 3)) ⟨wq.heap.size, 0, none⟩ 1 1 [.int .i64 (x : Int)] rfl rfl ?c1 ?c2 ?c3 ?c4 ?c5 ?c6)
          case c1 =>
            intro jj uu hjj
            rw [Addr.add_lit, Nat.zero_add, hcn]
            simpa using hjj
          case c2 => simp [Value.oneCell']
          case c3 => unfold maxLen; omega
          case c4 => omega
          case c5 => simp; omega
          case c6 =>
            intro v' w6 hown hgr _ hat
            have hU6 := (HU.out.alloc (.cells #[.int .i64 (x : Int)] 3)).grown hgr (fun q hq => .inr (HO.out.lt q hq).1)
            have hO6 := OwnI.snoc hown
            obtain ⟨g', cap', rfl⟩ := ownsRow_succ hown
            rw [← HTK.out] at hO6
            have HO6 := Lib.hid hO6
            have HU6 := Lib.hid hU6
            clear hown hgr hat hU6 hO6 hcn hy hb3 hb4
            go_wp2_with fail
            go_roundw
            case rel => exact ⟨m + 1, by omega, by rw [HQ.out]; congr 1; omega, HO6, HU6⟩
            case measure => simp [intOf]
        · obtain rfl : m = s.post.length := by omega
          rw [show (s.post.length : Int) - 1 - ((s.post.length : Nat) : Int) = -1 by omega]
          have HOF2 := Lib.hid (row_base HO.out HU5.out.size)
          have HE9 : Hid (ints s.post.reverse = ints (s.post.reverse.take s.post.length)) := by show _ = _; rw [← List.length_reverse, List.take_length]
          go_wp2_with fail
          go_quiet (fail)
          go_wp2_with fail
          go_ret2
          refine ⟨_, _, rfl, ?_, ?_, (HU5.out.trans HU.out).drewN _⟩
          · rw [HCG.out, HDS.out, HE9.out]
            have h9 := OwnI.upd HOF2.out ((Upd.refl [] wq).drewN nq) (by simp)
            exact h9
          · rw [HCG.out, HDS.out]
            exact ((em_loops HE.out).upd HU.out).upd ((Upd.refl [] wq).drewN _)

end Go.Proofs.YtagjchgpcekmnaaDoor
