/- flow.Of: a method's blocks. -/
import Derived.Test.YtagjchgpcekmnaaDoorOfM
import Derived.Test.YtagjchgpcekmnaaDoorEach
import Derived.Test.YtagjchgpcekmnaaDoorClean
import Derived.RangeFuncNested
import Derived.Deep.RegionHeld3
namespace Go.Proofs.YtagjchgpcekmnaaDoor
open Go.RowKit Go.Shelf

attribute [local go_sem] Oper.semAt_some

theorem Below.heap_of_alloc2 {w : World} {k : Nat} {o : Obj} (h : w.heap[k]? = some o) (o1 o2 : Obj) : ((w.alloc o1).alloc o2).heap[k]? = some o :=
  (((Upd.refl [] w).alloc o1).alloc o2).heap h (by simp)
theorem keepB_of_below' {g n₀ : Nat} {W W' : World} (hg : g < n₀) (ht : 0 < n₀) (h : Below n₀ W W') : KeepB g W W' := ⟨h.block g hg, h.block _ ht, h.size⟩
theorem begL_pos (xs : List Ins) (h : 1 ≤ xs.length) : 0 < (begL xs).length := by
  have : 0 ∈ begL xs := by
    unfold begL
    rw [List.mem_filter]
    refine ⟨by simp; omega, ?_⟩
    unfold begU
    simp; omega
  exact List.length_pos_of_mem this
theorem begL_lt (xs : List Ins) (p : Nat) (h : p ∈ begL xs) : p < xs.length := by
  unfold begL at h
  rw [List.mem_filter] at h
  simpa using h.1
theorem toL_bd (xs : List Ins) (i : Nat) : (begL xs).getD i xs.length ≤ xs.length := by
  by_cases h : i < (begL xs).length
  · rw [List.getD_eq_getElem?_getD, List.getElem?_eq_getElem h]
    exact Nat.le_of_lt (begL_lt xs _ (List.getElem_mem h))
  · rw [getD_over _ _ _ (by omega)]; exact Nat.le_refl _
theorem own_deferred_ne {w : World} {B : Nat} {e : TypeId} {v : Value} {xs : List Int} {k : Nat} {l : Option (List Deferred)} (h : OwnI w B e v xs) (hk : w.heap[k]? = some (.deferred l)) (hv : v.ownBlock = some k) : False := by
  rcases h.2 with ⟨h1, _⟩ | ⟨g, c, cur, h1, _, hg, _⟩
  · rw [h1] at hv; simp [Value.ownBlock] at hv
  · rw [h1] at hv
    simp only [Value.ownBlock, Option.some.injEq] at hv
    subst hv
    rw [hg] at hk
    cases hk
theorem row_push {w w' : World} {G B gb n : Nat} {pre : List Nat} {vs : List Value} {xs : List (List Int)} {v0 v' : Value} {x : Int} {o : Obj} (h : OwnC w G B gb n pre vs xs) {b r : Nat} (hv : vs.getD (2 * b + r) undef = v0) (hb : b < pre.length) (hr : r < 2)
    (hown : w'.ownsRow B 3 1 v' ((xs.getD (2 * b + r) []).length + 1) ((xs.getD (2 * b + r) []).map (Value.int .i64) ++ [.int .i64 x]))
    (hgr : (w.drew.alloc o).grownBy w' v0.ownBlock) (hat : v'.ownBlock = v0.ownBlock ∨ v'.ownBlock = some (w.drew.alloc o).heap.size) :
    w'.frozen? ⟨gb, b * 4 + (2 + r), none⟩ = false ∧ w'.cell? ⟨gb, b * 4 + (2 + r), none⟩ = some v0 ∧ OwnC (w'.setCell ⟨gb, b * 4 + (2 + r), none⟩ v') G B gb n pre (vs.set (2 * b + r) v') (xs.set (2 * b + r) (xs.getD (2 * b + r) [] ++ [x])) ∧ Upd (gb :: v0.ownBlock.toList) w (w'.setCell ⟨gb, b * 4 + (2 + r), none⟩ v') ∧ (∀ k ∈ gb :: v0.ownBlock.toList, k = gb ∨ B ≤ k) ∧ (∀ k, v'.ownBlock = some k → v0.ownBlock = some k ∨ w.heap.size < k) := by
  subst hv
  have hd := (Upd.refl [] w).drew
  obtain ⟨h1, h2, h3, h4, h5⟩ := (h.upd hd (by simp) (by simp)).push b r hb hr hown hgr hat
  refine ⟨h1, h2, h3, ((Upd.refl _ w).drew).trans' h4 (fun k hk _ => hk), h5, fun k hk => ?_⟩
  rcases hat with e | e
  · exact .inl (e ▸ hk)
  · rw [e] at hk
    injection hk with hk
    subst hk
    exact .inr (by simp)
theorem row_done {W w w' : World} {G B gb n L : Nat} {pre : List Nat} {vs : List Value} {xs : List (List Int)} {v0 v' row : Value} {x : Int} {nx : List Int} (h : OwnC w G B gb n pre vs xs) {b r : Nat} (hv : vs.getD (2 * b + r) undef = v0) (hb : b < pre.length) (hr : r < 2)
    (hp : OwnC w' G B gb n pre (vs.set (2 * b + r) v') (xs.set (2 * b + r) (xs.getD (2 * b + r) [] ++ [x]))) (hu : Upd (gb :: v0.ownBlock.toList) w w') (hs : ∀ k ∈ gb :: v0.ownBlock.toList, k = gb ∨ B ≤ k) (hn : ∀ k, v'.ownBlock = some k → v0.ownBlock = some k ∨ w.heap.size < k)
    (hB : B = W.heap.size) (HU : Upd [gb] W w) (HUN : OwnI w L 3 row nx) (HAP : ∀ q, q < 2 * pre.length → ∀ k, (vs.getD q undef).ownBlock = some k → row.ownBlock ≠ some k) :
    ∃ vs2 : List Value, Hid (OwnC w' G B gb n pre vs2 (xs.set (2 * b + r) (xs.getD (2 * b + r) [] ++ [x]))) ∧ Hid (Upd [gb] W w') ∧ Hid (OwnI w' L 3 row nx) ∧ Hid (∀ q, q < 2 * pre.length → ∀ k, (vs2.getD q undef).ownBlock = some k → row.ownBlock ≠ some k) := by
  subst hv
  have htwo := h.two
  have hlen := h.len
  obtain ⟨cur, hblk, _⟩ := h.blk
  refine ⟨_, hp, HU.trans' hu (fun k hk hlt => ?_), HUN.upd hu (fun k hk hm => ?_), fun q hq k hk hk' => ?_⟩
  · rcases hs k hk with e | e
    · simp [e]
    · omega
  · rcases List.mem_cons.1 hm with rfl | hm
    · exact own_heap_ne HUN hblk (by decide) hk
    · exact HAP (2 * b + r) (by omega) k (Option.mem_toList.1 hm) hk
  · by_cases e : 2 * b + r = q
    · subst e
      rw [getD_set_eq _ _ _ _ (by omega)] at hk
      rcases hn k hk with e | e
      · exact HAP _ hq k e hk'
      · have := (HUN.lt k hk').2
        omega
    · rw [getD_set_ne _ _ _ _ _ e] at hk
      exact HAP q hq k hk hk'
theorem row_keep {w w' : World} {G B gb n : Nat} {pre : List Nat} {vs : List Value} {xs : List (List Int)} {v0 : Value} {o : Obj} (h : OwnC w G B gb n pre vs xs) {b r : Nat} (hv : vs.getD (2 * b + r) undef = v0) (hb : b < pre.length) (hr : r < 2)
    (hgr : (w.drew.alloc o).grownBy w' v0.ownBlock) {p : Addr} {u : Value} (hp : w.cell? p = some u) (hlt : p.block < B) : w'.cell? p = some u ∧ True := by
  subst hv
  have hu : Upd (vs.getD (2 * b + r) undef).ownBlock.toList w w' := (((Upd.refl _ w).drew).alloc o).grown hgr (fun q hq => Or.inl (Option.mem_toList.2 hq))
  refine ⟨hu.cell hp (fun hm => ?_), trivial⟩
  have := ((h.own (2 * b + r) (by rw [h.two]; omega)).lt _ (Option.mem_toList.1 hm)).1
  omega
theorem rmax_set {rows : List (List Int)} {b : Nat} (h : rmax rows b) (i : Nat) (x : Int) : rmax (rows.set i (rows.getD i [] ++ [x])) (b + 1) := fun q => by
  by_cases e : i = q
  · subst e
    by_cases hl : i < rows.length
    · rw [getD_set_eq _ _ _ _ hl, List.length_append]; exact Nat.succ_le_succ (h i)
    · rw [getD_over _ _ _ (by simpa using hl)]; simp
  · rw [getD_set_ne _ _ _ _ _ e]; have := h q; omega
theorem cells_own {β : Type} (B : Nat) (t : TypeId) (f : β → Array Value) : Own (fun s W => W.heap[B]? = some (.cells (f s) t (0, 0))) := fun s X Y row hs hg hrow =>
  (hg.block B (lt_of_heap hs) (fun e' => by obtain ⟨o, ho, hc⟩ := hrow B e'.symm; rw [hs] at ho; cases ho; cases hc)).trans hs
theorem Tryd.infoBlk : (Tryd.prog.info? 41).map (fun i => (i.zero, i.size, i.bytes)) = some (some (.agg #[.int .i64 0, .int .i64 0, .slice none 0 0, .slice none 0 0]), 4, 64) := by kernel_rfl

theorem beg_two (n i p : Nat) (ia ib im : Int) (c : Bool) : ((c || (decide (p < n) && decide (ia = (p : Int)))) || (decide (p < n) && decide ((i : Int) + 1 = (p : Int)))) = (c || (decide (p < n) && beg1 ⟨22, ia, ib, im⟩ i p)) := by
  have e : decide ((i : Int) + 1 = (p : Int)) = decide (i + 1 = p) := decide_eq_decide.2 (by omega)
  rw [e]
  unfold beg1
  cases c <;> cases decide (p < n) <;> simp
theorem beg_two3 (n i p : Nat) (ia ib im : Int) (c : Bool) : ((c || (decide (p < n) && decide (ia = (p : Int)))) || (decide (p < n) && decide ((i : Int) + 1 = (p : Int)))) = (c || (decide (p < n) && beg1 ⟨23, ia, ib, im⟩ i p)) := by
  have e : decide ((i : Int) + 1 = (p : Int)) = decide (i + 1 = p) := decide_eq_decide.2 (by omega)
  rw [e]
  unfold beg1
  cases c <;> cases decide (p < n) <;> simp
theorem beg_ret (n i p : Nat) (ia ib im : Int) (c : Bool) : (c || (decide (p < n) && decide ((i : Int) + 1 = (p : Int)))) = (c || (decide (p < n) && beg1 ⟨33, ia, ib, im⟩ i p)) := by
  have e : decide ((i : Int) + 1 = (p : Int)) = decide (i + 1 = p) := decide_eq_decide.2 (by omega)
  rw [e]
  unfold beg1
  cases c <;> cases decide (p < n) <;> simp

set_option maxRecDepth 100000 in
set_option maxHeartbeats 20000000 in
theorem of_any (s1 s2 s3 : ByteArray) (kv : Value) (xs : List Ins) (w : World) (h : CodeAt w kv xs) (hn : xs.length ≤ 100000) (hn1 : 1 ≤ xs.length) (hT : TzAt w)
    (hA : ∀ j, j < xs.length → ((xs.getD j default).op = 22 ∨ (xs.getD j default).op = 23) → 0 ≤ (xs.getD j default).a) :
    Calls Tryd.prog 12 #[.agg #[.string s1, .string s2, .string s3, kv]] w fun e w' => ∃ G B gb vs cap, e = .returned (.slice (some ⟨gb, 0, none⟩) (begL xs).length cap) ∧
      OwnC w' G B gb xs.length (begL xs) vs (est xs (begL xs).length) ∧ w.heap.size ≤ G ∧ Upd [] w w' := by
  obtain ⟨a, cap, rfl, hl, hm, hx⟩ := h
  have HCODE : Hid (CodeAt w (.slice a xs.length cap) xs) := ⟨a, cap, rfl, hl, hm, hx⟩
  have HX := Lib.hid hx
  have HT := Lib.hid hT
  have HA := Lib.hid hA
  clear hx hm hT hA
  have hAU := (Upd.refl [] w).alloc (.cells #[.string s1, .string s2, .string s3, .slice a xs.length cap] 36)
  have HAU := Lib.hid hAU
  clear hAU
  have hsm : (w.alloc (.cells #[.string s1, .string s2, .string s3, .slice a xs.length cap] 36)).heap.size = w.heap.size + 1 := by simp
  have hmc := heap_alloc_new w (.cells #[.string s1, .string s2, .string s3, .slice a xs.length cap] 36)
  refine (callsIn_wide (n := 5)).1 ?_
  refine callsIn_of_wp_marks Tryd.func12 rfl trivial ?_ rfl
  simp only [Tryd.ntmps12, List.size_toArray, List.length_cons, List.length_nil, Nat.reduceAdd, Nat.reduceSub, Array.replicate_succ, Array.replicate_zero, List.push_toArray, List.append_toArray, List.nil_append, List.cons_append]
  refine wpIn_wide.2 ?_
  go_wp2_with fail
  refine (bnew xs.length _ (by omega)).mono ?_
  rintro e w1 ⟨rfl, hs1, hu1, hz1⟩
  rw [hsm] at hs1 hz1
  have hb0 : ∀ p, bhas (List.replicate ((xs.length + 63) / 64) 0) p = false := bhas_zero _
  have hm1 := hu1.heap hmc (by simp)
  have hU1 := HAU.out.trans hu1
  clear hu1 hmc hsm
  go_wp2_with fail
  refine (add_any (w.heap.size + 1 + 1) (w.heap.size + 1) xs.length 0 _ _ hs1).mono ?_
  rintro e w2 ⟨r, ws0, rfl, hs2, hb2, hu2⟩
  have hb2 : ∀ p, bhas ws0 p = begU xs 0 p := fun p => by rw [hb2, hb0, begU_zero]; simp
  have hm2 := hu2.heap hm1 (by simp)
  have hsz2 : w.heap.size + 3 ≤ w2.heap.size := by have := hu2.size; omega
  have hU2 : Upd [] w w2 := hU1.trans' hu2 (fun i hi hlt => by simp at hi; omega)
  clear hu2 hm1 hb0 hs1 hz1 hU1
  have HS2 := Lib.hid hs2
  have HB2 := Lib.hid hb2
  have HU2 := Lib.hid hU2
  have HM2 := Lib.hid hm2
  have hm3 : w2.cell? ⟨w.heap.size, 3, none⟩ = some (.slice a xs.length cap) := by rw [cell_of hm2]; rfl
  clear hs2 hb2 hU2 hm2
  go_wp2_with fail
  go_loopw [21] (fun iv wr => ∃ (i : Nat) (ws : List Nat), i ≤ xs.length ∧ iv = .int .i64 i ∧ Hid (SetAt wr (w.heap.size + 1 + 1) (w.heap.size + 1) xs.length ws) ∧ Hid (∀ p, bhas ws p = begU xs i p) ∧ Upd [w.heap.size + 1] w2 wr) (fun iv _ => xs.length - (intOf iv).toNat)
  case atStart => exact ⟨0, ws0, by omega, rfl, HS2, HB2, Upd.refl _ _⟩
  case round =>
    obtain ⟨i, ws, hi, rfl, hS, hB, hU⟩ := hrel
    obtain ⟨wo, rfl⟩ : ∃ wo : World, wo = wr := ⟨_, rfl⟩
    by_cases hlt : i < xs.length
    · skip
      -- <L1
      obtain ⟨b, o, rfl, hbd, hii⟩ := HX.out i hlt
      obtain ⟨hi0, hi1, hi2, hi3⟩ := hii
      have hbl := World.block_lt_of_cell? w _ hi0
      have hup := HU2.out
      have hcl : ∀ {q : Nat} {v : Value}, w.cell? ⟨b, q, none⟩ = some v → wo.cell? ⟨b, q, none⟩ = some v := fun hq => hU.cell (hup.cell hq (by simp)) (by simp; simp at hbl; omega)
      have hy0 := hcl hi0
      have hy1 := hcl hi1
      have hy2 := hcl hi2
      have hy3 := hcl hi3
      have HBS := Lib.hid (fun p => begU_succ xs i p)
      clear hi0 hi1 hi2 hi3 hcl hup hbl
      generalize xs.getD i default = x at hy0 hy1 hy2 hy3 HBS hbd
      obtain ⟨op, ia, ib, im⟩ := x
      simp only at hy0 hy1 hy2 hy3
      have hS1 := hS.out.upd ((Upd.refl [] wo).alloc (.cells #[.int .i64 op, .int .i64 ia, .int .i64 ib, .int .i64 im] 44)) (by simp) (by simp)
      have HU := Lib.hid (hU.alloc (.cells #[.int .i64 op, .int .i64 ia, .int .i64 ib, .int .i64 im] 44))
      have hsz := hU.size
      have HSA := Lib.hid hS1
      have hbx := heap_alloc_new wo (.cells #[.int .i64 op, .int .i64 ia, .int .i64 ib, .int .i64 im] 44)
      clear hS1 hU hS
      by_cases k1 : op = 22
      · subst k1
        go_wp2_with fail
        refine (add_any (w.heap.size + 1 + 1) (w.heap.size + 1) xs.length ia _ _ HSA.out).mono ?_
        rintro e wa ⟨ra, wsa, rfl, hsa, hba, hua⟩
        have hya := hua.heap hbx (by simp; omega)
        have HUA := Lib.hid (HU.out.trans hua)
        have hza := hua.size
        rw [World.size_alloc] at hza
        have HBA := Lib.hid hba
        clear hua hba
        go_wp2_with fail
        refine (add_any (w.heap.size + 1 + 1) (w.heap.size + 1) xs.length _ _ _ hsa).mono ?_
        rintro e wb ⟨rb, wsb, rfl, hsb, hbb, hub⟩
        have HUB := Lib.hid (HUA.out.trans hub)
        have HBB := Lib.hid hbb
        have HSB := Lib.hid hsb
        clear hub hbb hsb hsa
        go_wp2_with fail
        go_roundw
        case rel => exact ⟨i + 1, wsb, by omega, by go_num, HSB, (fun p => by
          rw [HBB.out p, HBA.out p, hB.out p, HBS.out p]
          exact beg_two xs.length i p ia _ _ _ : ∀ p, _), HUB.out⟩
        case measure => simp [intOf]; omega
      · by_cases k2 : op = 23
        · subst k2
          go_wp2_with fail
          refine (add_any (w.heap.size + 1 + 1) (w.heap.size + 1) xs.length ia _ _ HSA.out).mono ?_
          rintro e wa ⟨ra, wsa, rfl, hsa, hba, hua⟩
          have hya := hua.heap hbx (by simp; omega)
          have HUA := Lib.hid (HU.out.trans hua)
          have hza := hua.size
          rw [World.size_alloc] at hza
          have HBA := Lib.hid hba
          clear hua hba
          go_wp2_with fail
          refine (add_any (w.heap.size + 1 + 1) (w.heap.size + 1) xs.length _ _ _ hsa).mono ?_
          rintro e wb ⟨rb, wsb, rfl, hsb, hbb, hub⟩
          have HUB := Lib.hid (HUA.out.trans hub)
          have HBB := Lib.hid hbb
          have HSB := Lib.hid hsb
          clear hub hbb hsb hsa
          go_wp2_with fail
          go_roundw
          case rel => exact ⟨i + 1, wsb, by omega, by go_num, HSB, (fun p => by
            rw [HBB.out p, HBA.out p, hB.out p, HBS.out p]
            exact beg_two3 xs.length i p ia _ _ _ : ∀ p, _), HUB.out⟩
          case measure => simp [intOf]; omega
        · by_cases k3 : op = 33
          · subst k3
            go_wp2_with fail
            refine (add_any (w.heap.size + 1 + 1) (w.heap.size + 1) xs.length _ _ _ HSA.out).mono ?_
            rintro e wb ⟨rb, wsb, rfl, hsb, hbb, hub⟩
            have HUB := Lib.hid (HU.out.trans hub)
            have HBB := Lib.hid hbb
            have HSB := Lib.hid hsb
            clear hub hbb hsb
            go_wp2_with fail
            go_roundw
            case rel => exact ⟨i + 1, wsb, by omega, by go_num, HSB, (fun p => by
              rw [HBB.out p, hB.out p, HBS.out p]
              exact beg_ret xs.length i p ia _ _ _ : ∀ p, _), HUB.out⟩
            case measure => simp [intOf]; omega
          · have d1 : (op == 22) = false := by simpa using k1
            have d2 : (op == 23) = false := by simpa using k2
            have d3 : (op == 33) = false := by simpa using k3
            go_wp2_with fail
            go_roundw
            case rel => exact ⟨i + 1, ws, by omega, by go_num, HSA, (fun p => by rw [hB.out p, HBS.out p]; simp [beg1, d1, d2, d3] : ∀ p, _), HU.out⟩
            case measure => simp [intOf]; omega
      -- L1>
    · obtain rfl : i = xs.length := by omega
      have hmo := hU.heap HM2.out (by simp)
      have hm3 : wo.cell? ⟨w.heap.size, 3, none⟩ = some (.slice a xs.length cap) := by rw [cell_of hmo]; rfl
      have hm4 := ((Upd.refl [] wo).alloc (.cells #[.slice none 0 0] 32)).cell hm3 (by simp)
      have hB1 := hB
      have hUo : Upd [] w wo := HU2.out.trans' hU (fun i hi hlt => by simp at hi; omega)
      have hzo : w.heap.size + 3 ≤ wo.heap.size := by have := hU.size; omega
      have HUO := Lib.hid hUo
      have HMO := Lib.hid hmo
      have hmk := make_intsN (wo.alloc (.cells #[.slice none 0 0] 32)) xs.length (by omega)
      clear hU hUo hmo HS2 HB2 HU2 HM2 hsz2
      simp only [icells, List.map_replicate, List.toArray_replicate] at hmk
      go_wp2_with fail
      refine (each_any _ _).mono ?_
      rintro e w' ⟨rfl, rfl⟩
      go_wp2_with fail
      have bO : Boxed (wo.alloc (.cells #[.slice none 0 0] 32)) wo.heap.size 32 (.slice none 0 0) := Boxed.new wo 32 (.slice none 0 0)
      have bA := heap_alloc_new (wo.alloc (.cells #[.slice none 0 0] 32)) (.cells (Array.replicate xs.length (.int .i64 0)) 3)
      have bT := Boxed.new ((wo.alloc (.cells #[.slice none 0 0] 32)).alloc (.cells (Array.replicate xs.length (.int .i64 0)) 3)) 28 (.slice (some ⟨wo.heap.size + 1, 0, none⟩) xs.length xs.length)
      have bN := Boxed.new (((wo.alloc (.cells #[.slice none 0 0] 32)).alloc (.cells (Array.replicate xs.length (.int .i64 0)) 3)).alloc (.cells #[.slice (some ⟨wo.heap.size + 1, 0, none⟩) xs.length xs.length] 28)) 65 (.pointer (some ⟨w.heap.size + 1 + 1, 0, none⟩))
      rw [World.size_alloc] at bA
      rw [World.size_alloc, World.size_alloc] at bT
      rw [World.size_alloc, World.size_alloc, World.size_alloc] at bN
      have bA := Below.heap_of_alloc2 bA (.cells #[.slice (some ⟨wo.heap.size + 1, 0, none⟩) xs.length xs.length] 28) (.cells #[.pointer (some ⟨w.heap.size + 1 + 1, 0, none⟩)] 65)
      have bO := ((bO.alloc (.cells (Array.replicate xs.length (.int .i64 0)) 3)).alloc (.cells #[.slice (some ⟨wo.heap.size + 1, 0, none⟩) xs.length xs.length] 28)).alloc (.cells #[.pointer (some ⟨w.heap.size + 1 + 1, 0, none⟩)] 65)
      have bT := bT.alloc (.cells #[.pointer (some ⟨w.heap.size + 1 + 1, 0, none⟩)] 65)
      have hB0 : Below wo.heap.size wo ((((wo.alloc (.cells #[.slice none 0 0] 32)).alloc (.cells (Array.replicate xs.length (.int .i64 0)) 3)).alloc (.cells #[.slice (some ⟨wo.heap.size + 1, 0, none⟩) xs.length xs.length] 28)).alloc (.cells #[.pointer (some ⟨w.heap.size + 1 + 1, 0, none⟩)] 65)) :=
        ((((Below.refl _ wo).alloc (Nat.le_refl _) _).alloc (by simp) _).alloc (by simp; omega) _).alloc (by simp; omega) _
      have hsz0 : ((((wo.alloc (.cells #[.slice none 0 0] 32)).alloc (.cells (Array.replicate xs.length (.int .i64 0)) 3)).alloc (.cells #[.slice (some ⟨wo.heap.size + 1, 0, none⟩) xs.length xs.length] 28)).alloc (.cells #[.pointer (some ⟨w.heap.size + 1 + 1, 0, none⟩)] 65)).heap.size = wo.heap.size + 4 := by simp
      generalize ((((wo.alloc (.cells #[.slice none 0 0] 32)).alloc (.cells (Array.replicate xs.length (.int .i64 0)) 3)).alloc (.cells #[.slice (some ⟨wo.heap.size + 1, 0, none⟩) xs.length xs.length] 28)).alloc (.cells #[.pointer (some ⟨w.heap.size + 1 + 1, 0, none⟩)] 65)) = W0 at bO bA bT bN hB0 hsz0 ⊢
      have hUW := Upd.of_below hB0
      have hset := hS.out.upd hUW (by simp) (by simp)
      have htz := (HT.out.upd HUO.out (by simp)).upd hUW (by simp)
      have htl := (HT.out.upd HUO.out (by simp)).lt
      have hbl : (blist ws).length ≤ xs.length := by
        rw [blist_eq ws xs.length _ hB.out (fun p hp => by unfold begU at hp; simp at hp; exact hp.1) hset.2.2.2.1]
        have := List.length_filter_le (begU xs xs.length) (List.range xs.length)
        simpa using this
      obtain ⟨i0, hi, hz0, hz1, hz2⟩ := info_parts Tryd.infoBlk
      clear hm4 hmk
      refine (wpIn_wide (n := 5)).1 ?_
      refine wpIn_rangeFunc_ownG rfl (by omega) (gf := 45) (lb := #[.pointer (some ⟨wo.heap.size + 1 + 1 + 1, 0, none⟩)]) rfl trivial (enters_of Tryd.func45 (by kernel_rfl) rfl)
        (each_stops 4 (by omega) (wo.heap.size + 1 + 1 + 1) (w.heap.size + 1 + 1) (w.heap.size + 1) xs.length ws _ bN.cell hset htz) (fun a b => a.trans b) (keepB_b (by omega) (by omega)) (Below.refl _ _) (fun _ => rfl)
        (fun (pre : List (Inb ws)) W => (((∃ v, Boxed W wo.heap.size 32 v ∧ W.ownsRow wo.heap.size 41 4 v pre.length (bflat xs.length (pre.map Subtype.val) []) ∧ True) ∧ W.heap[wo.heap.size + 1]? = some (.cells (icells (ints (atL xs.length (pre.map Subtype.val)))) 3 (0, 0))) ∧ Boxed W (wo.heap.size + 1 + 1) 28 (.slice (some ⟨wo.heap.size + 1, 0, none⟩) xs.length xs.length)) ∧ Below wo.heap.size wo W)
        (fun _ _ _ => False)
        (OwnFrom.and (OwnFrom.and (OwnFrom.and (Own.from (holdsRow_own wo.heap.size wo.heap.size 32 41 4 (fun (pre : List (Inb ws)) => pre.length) (fun (pre : List (Inb ws)) => bflat xs.length (pre.map Subtype.val) []) (fun _ _ => True)) _) (Own.from (cells_own (wo.heap.size + 1) 3 (fun (pre : List (Inb ws)) => icells (ints (atL xs.length (pre.map Subtype.val))))) _)) (Own.from (boxed_own (wo.heap.size + 1 + 1) 28 (fun _ => .slice (some ⟨wo.heap.size + 1, 0, none⟩) xs.length xs.length)) _)) (ownFrom_below (Nat.le_refl _) (by omega)))
        (fun _ _ _ _ _ hs _ _ => hs)
        ⟨⟨⟨⟨_, bO, World.ownsRow_nil _ _ _ _, trivial⟩, by rw [bA]; simp [atL_nil, ints, icells]⟩, bT⟩, hB0⟩
        (fun x : Inb ws => { tmps := #[.agg #[.string s1, .string s2, .string s3, .slice a xs.length cap], .pointer (some ⟨w.heap.size, 0, none⟩), .slice none 0 0, .pointer (some ⟨w.heap.size + 1 + 1, 0, none⟩), u4, u5, .pointer (some ⟨wo.heap.size, 0, none⟩), .pointer (some ⟨wo.heap.size + 1 + 1, 0, none⟩), .int .i64 (x.1 : Int), undef, undef, undef, .pointer (some ⟨w.heap.size, 3, none⟩), .slice a xs.length cap, .int .i64 xs.length, .pointer (some ⟨w.heap.size + 1 + 1, 0, none⟩), .pointer (some ⟨w.heap.size + 1 + 1, 0, none⟩), .bool r, .pointer (some ⟨w.heap.size, 3, none⟩), .slice a xs.length cap, .int .i64 xs.length, .int .i64 xs.length, .bool false, u23, u24, u25, u26, u27, u28, u29, u30, u31, u32, u33, u34, u35, u36, u37, u38, u39, u40, u41, u42, u43, u44, u45, .pointer (some ⟨w.heap.size, 3, none⟩), .slice a xs.length cap, .int .i64 xs.length, .slice (some ⟨wo.heap.size + 1, 0, none⟩) xs.length xs.length, .pointer (some ⟨w.heap.size + 1 + 1, 0, none⟩), .func (.func 45) #[] #[.pointer (some ⟨wo.heap.size + 1 + 1 + 1, 0, none⟩)], .int .i64 (x.1 : Int), undef, undef, undef, undef, undef, undef, undef, undef, undef, undef, undef, undef, undef, undef, undef, undef, undef, undef, undef, undef, undef, undef, undef, undef, undef, undef, undef, undef, undef, undef, undef, undef, undef, undef, undef, undef, undef, undef, undef, undef, undef, undef, undef, undef, undef, undef, undef, undef, undef, undef, undef, undef, undef, undef, undef, undef, undef, undef, undef, undef, undef, undef, undef, undef, undef, undef, undef, undef, undef, undef, undef, undef, undef, undef, undef, undef, undef, undef, undef, undef, undef, undef], defers := [] }) ?assign ?body ?done ?stop
      case assign =>
        intro l x W K hK
        gi_wp2
        exact hK
      case body =>
        rintro l pre x W ⟨⟨⟨⟨v, hv, hrow, _⟩, hat⟩, htb⟩, hB⟩ hlt2
        have hx1 : x.1 < xs.length := hset.2.2.2.2.2 x.1 x.2
        have hk : pre.length < 100000 := by omega
        have hBs := hB.size
        have hz4 := htb.lt
        have HPL : (pre.map Subtype.val).length = pre.length := by simp
        have HAT := Lib.hid (atL_len xs.length (pre.map Subtype.val))
        have HSN := Lib.hid (atL_snoc xs.length (pre.map Subtype.val) x.1)
        have HMAP : Hid ((pre ++ [x]).map Subtype.val = pre.map Subtype.val ++ [x.1]) := by show _ = _; simp
        have HLEN : Hid ((pre ++ [x]).length = pre.length + 1) := by show _ = _; simp
        generalize hp : pre.map Subtype.val = pl at HPL HAT HSN HMAP hrow hat
        have HFL := Lib.hid (bflat_snoc xs.length pl x.1)
        have hmW : W.cell? ⟨w.heap.size, 3, none⟩ = some (.slice a xs.length cap) := (Upd.of_below hB).cell hm3 (by simp)
        have hca : W.cell? ⟨wo.heap.size + 1, x.1, none⟩ = some (.int .i64 ((ints (atL xs.length pl)).getD x.1 0)) := by
          rw [cell_of hat]; exact icells_get _ _ (by rw [ints_len, HAT.out]; exact hx1)
        have hfa := froz_of hat x.1
        have hct := htb.cell
        have hcv := hv.cell
        have hnv : wo.heap.size ∉ v.ownBlock.toList := fun hm => own_heap_ne hrow hv (by decide) (Option.mem_toList.1 hm)
        have hna' : v.ownBlock ≠ some (wo.heap.size + 1) := own_heap_ne hrow hat (by decide)
        have hna : wo.heap.size + 1 ∉ v.ownBlock.toList := fun hm => hna' (Option.mem_toList.1 hm)
        have hnt : wo.heap.size + 1 + 1 ∉ v.ownBlock.toList := fun hm => own_heap_ne hrow htb (by decide) (Option.mem_toList.1 hm)
        by_cases hk0 : pre.length = 0
        · skip
          -- <B1
          obtain ⟨vp, vc, rfl⟩ : ∃ vp vc, v = .slice vp pre.length vc := by
            rcases hrow.2 with ⟨rfl, _⟩ | ⟨g', c', cur, rfl, _⟩
            · exact ⟨none, 0, by rw [hk0]⟩
            · exact ⟨_, _, rfl⟩
          have d1 : decide ((0 : Int) < (pre.length : Int)) = false := decide_eq_false (by omega)
          have d2 : decide ((pre.length : Int) > 0) = false := decide_eq_false (by omega)
          have HK0 := Lib.hid hk0
          have hk1 : pre.length < 1 := by omega
          clear hk0
          have HU1 : Hid (Upd (Value.slice vp pre.length vc).ownBlock.toList W W) := Upd.refl _ W
          have hat1 : (W).heap[wo.heap.size + 1]? = some (.cells (icells (ints (atL xs.length pl))) 3 (0, 0)) := HU1.out.heap hat hna
          have HAT2 := Lib.hid (heap_setCell hat1 x.1 (.int .i64 (pre.length : Int)))
          have HU2 : Hid (Upd ((wo.heap.size + 1) :: (Value.slice vp pre.length vc).ownBlock.toList) W (W.setCell ⟨wo.heap.size + 1, x.1, none⟩ (.int .i64 (pre.length : Int)))) := (HU1.out.mono (fun q hq _ => List.mem_cons_of_mem _ hq)).setCell (.inl (by simp)) _
          have hv3 : Boxed (W.setCell ⟨wo.heap.size + 1, x.1, none⟩ (.int .i64 (pre.length : Int))) wo.heap.size 32 (.slice vp pre.length vc) := HU2.out.heap hv (by simp only [List.mem_cons, not_or]; exact ⟨by omega, hnv⟩)
          have hsz3 : (W.setCell ⟨wo.heap.size + 1, x.1, none⟩ (.int .i64 (pre.length : Int))).heap.size = W.heap.size := by simp
          have hc4 : ∀ j u, ([.int .i64 (x.1 : Int), .int .i64 (xs.length : Int), .slice none 0 0, .slice none 0 0] : List Value)[j]? = some u → ((W.setCell ⟨wo.heap.size + 1, x.1, none⟩ (.int .i64 (pre.length : Int))).alloc (.cells #[.int .i64 (x.1 : Int), .int .i64 (xs.length : Int), .slice none 0 0, .slice none 0 0] 41)).cell? ((⟨W.heap.size, 0, none⟩ : Addr).add j) = some u := fun j u hj => by
            rw [← hsz3, Addr.add_lit, Nat.zero_add, cell_of (heap_alloc_new _ _)]
            simpa using hj
          have hca2 := cell_of HAT2.out x.1
          have hcb2 := HU2.out.cell hct (by simp only [List.mem_cons, not_or]; exact ⟨by omega, hnt⟩)
          have hcm2 := HU2.out.cell hmW (by simp only [List.mem_cons, not_or]; exact ⟨by omega, fun hm => by have : wo.heap.size ≤ w.heap.size := (hrow.lt _ (Option.mem_toList.1 hm)).1; omega⟩)
          have hcv2 := hv3.cell
          have hrow3 : (W.setCell ⟨wo.heap.size + 1, x.1, none⟩ (.int .i64 (pre.length : Int))).ownsRow wo.heap.size 41 4 (.slice vp pre.length vc) pre.length (bflat xs.length pl []) := ownsRow_setCell_other hrow hna' _
          have HFE : Hid (bflat xs.length pl [] ++ [.int .i64 (x.1 : Int), .int .i64 (xs.length : Int), .slice none 0 0, .slice none 0 0] = bflat xs.length (pl ++ [x.1]) []) := by
            show _ = _
            rw [List.eq_nil_of_length_eq_zero (show pl.length = 0 by have := HK0.out; omega)]
            exact bflat_one xs.length x.1
          gi_wp2_with (gi_at_builtin; refine wpListIn_append_own _ rfl _ _ 32 rfl wo.heap.size 41 i0 (.agg #[.int .i64 0, .int .i64 0, .slice none 0 0, .slice none 0 0]) 4 64 Tryd.underlying32 hi hz0 hz1 hz2 rfl (by decide) _ _ _ rfl (hrow3.alloc _) ⟨W.heap.size, 0, none⟩ 1 1 [.int .i64 (x.1 : Int), .int .i64 (xs.length : Int), .slice none 0 0, .slice none 0 0] rfl rfl hc4 (by simp [Value.oneCell']) (by unfold maxLen; omega) (by omega) (by simp; omega) ?_; intro v' w1 hown' hgrow _; obtain ⟨g2, cap2, rfl⟩ := ownsRow_succ hown'; obtain ⟨hv1, hv2, hr2, hk2, hb2⟩ := hv3.appended (by decide) hrow3 (by simp; omega) (Nat.le_refl _) hown' hgrow; have HGR := Lib.hid hgrow; have hc1 := hv1.cell; have hf1 := hv1.frozen)
          have hU3 : Upd (wo.heap.size :: (Value.slice vp pre.length vc).ownBlock.toList) (W.setCell ⟨wo.heap.size + 1, x.1, none⟩ (.int .i64 (pre.length : Int))) (w1.setCell ⟨wo.heap.size, 0, none⟩ (.slice (some ⟨g2, 0, none⟩) (pre.length + 1) cap2)) := (((Upd.refl _ _).alloc _).grown HGR.out (fun q hq => .inl (List.mem_cons_of_mem _ (Option.mem_toList.2 hq)))).setCell (.inl (by simp)) _
          have hBW := ((Below.refl _ W).setCell (p := ⟨wo.heap.size + 1, x.1, none⟩) (by simp) _).trans hb2
          rw [HFE.out] at hr2
          refine ⟨((KeepsOthers.setCell W _ _).trans hk2).from _, keepB_of_below' (by omega) htl hBW, ⟨⟨⟨_, hv2, by rw [HMAP.out, HLEN.out]; exact hr2, trivial⟩, ?_⟩, ?_⟩, hB.trans hBW⟩
          · rw [hU3.heap HAT2.out (by simp only [List.mem_cons, not_or]; exact ⟨by omega, hna⟩), HMAP.out, HSN.out]
            simp [icells, ints, List.map_set, HPL]
          · exact hU3.heap (HU2.out.heap htb (by simp only [List.mem_cons, not_or]; exact ⟨by omega, hnt⟩)) (by simp only [List.mem_cons, not_or]; exact ⟨by omega, hnt⟩)
          -- B1>
        · skip
          -- <B2
          obtain ⟨g', c', cur, rfl, hg1, hg2, hg3, hg4, hg5, hg6⟩ := hrow.2.resolve_left (fun h => hk0 h.2)
          have hc1 : ∃ u, W.cell? ⟨g', (pre.length - 1) * 4 + 1, none⟩ = some u := by
            rw [hrow.cellAt _ (by omega)]
            exact ⟨_, List.getElem?_eq_getElem (by rw [hrow.1]; omega)⟩
          obtain ⟨u1, hc1⟩ := hc1
          have hf1 := hrow.frozenAt ((pre.length - 1) * 4 + 1)
          have hst := hrow.stored ((pre.length - 1) * 4 + 1) (.int .i64 (x.1 : Int))
          have hne1 : g' ≠ wo.heap.size + 1 := fun e => hna' (by rw [e]; rfl)
          have HU1 : Hid (Upd (Value.slice (some ⟨g', 0, none⟩) pre.length c').ownBlock.toList W (W.setCell ⟨g', (pre.length - 1) * 4 + 1, none⟩ (.int .i64 (x.1 : Int)))) := (Upd.refl _ W).setCell (.inl (by simp [Value.ownBlock])) _
          have hat1 : (W.setCell ⟨g', (pre.length - 1) * 4 + 1, none⟩ (.int .i64 (x.1 : Int))).heap[wo.heap.size + 1]? = some (.cells (icells (ints (atL xs.length pl))) 3 (0, 0)) := HU1.out.heap hat hna
          have HAT2 := Lib.hid (heap_setCell hat1 x.1 (.int .i64 (pre.length : Int)))
          have HU2 : Hid (Upd ((wo.heap.size + 1) :: (Value.slice (some ⟨g', 0, none⟩) pre.length c').ownBlock.toList) W ((W.setCell ⟨g', (pre.length - 1) * 4 + 1, none⟩ (.int .i64 (x.1 : Int))).setCell ⟨wo.heap.size + 1, x.1, none⟩ (.int .i64 (pre.length : Int)))) := (HU1.out.mono (fun q hq _ => List.mem_cons_of_mem _ hq)).setCell (.inl (by simp)) _
          have hv3 : Boxed ((W.setCell ⟨g', (pre.length - 1) * 4 + 1, none⟩ (.int .i64 (x.1 : Int))).setCell ⟨wo.heap.size + 1, x.1, none⟩ (.int .i64 (pre.length : Int))) wo.heap.size 32 (.slice (some ⟨g', 0, none⟩) pre.length c') := HU2.out.heap hv (by simp only [List.mem_cons, not_or]; exact ⟨by omega, hnv⟩)
          have hsz3 : ((W.setCell ⟨g', (pre.length - 1) * 4 + 1, none⟩ (.int .i64 (x.1 : Int))).setCell ⟨wo.heap.size + 1, x.1, none⟩ (.int .i64 (pre.length : Int))).heap.size = W.heap.size := by simp
          have hc4 : ∀ j u, ([.int .i64 (x.1 : Int), .int .i64 (xs.length : Int), .slice none 0 0, .slice none 0 0] : List Value)[j]? = some u → (((W.setCell ⟨g', (pre.length - 1) * 4 + 1, none⟩ (.int .i64 (x.1 : Int))).setCell ⟨wo.heap.size + 1, x.1, none⟩ (.int .i64 (pre.length : Int))).alloc (.cells #[.int .i64 (x.1 : Int), .int .i64 (xs.length : Int), .slice none 0 0, .slice none 0 0] 41)).cell? ((⟨W.heap.size, 0, none⟩ : Addr).add j) = some u := fun j u hj => by
            rw [← hsz3, Addr.add_lit, Nat.zero_add, cell_of (heap_alloc_new _ _)]
            simpa using hj
          have hca2 := cell_of HAT2.out x.1
          have hcb2 := HU2.out.cell hct (by simp only [List.mem_cons, not_or]; exact ⟨by omega, hnt⟩)
          have hcm2 := HU2.out.cell hmW (by simp only [List.mem_cons, not_or]; exact ⟨by omega, fun hm => by have : wo.heap.size ≤ w.heap.size := (hrow.lt _ (Option.mem_toList.1 hm)).1; omega⟩)
          have hcv2 := hv3.cell
          have hrow3 : ((W.setCell ⟨g', (pre.length - 1) * 4 + 1, none⟩ (.int .i64 (x.1 : Int))).setCell ⟨wo.heap.size + 1, x.1, none⟩ (.int .i64 (pre.length : Int))).ownsRow wo.heap.size 41 4 (.slice (some ⟨g', 0, none⟩) pre.length c') pre.length ((bflat xs.length pl []).set ((pre.length - 1) * 4 + 1) (.int .i64 (x.1 : Int))) := ownsRow_setCell_other hst.1 (by simp [Value.ownBlock]; exact hne1) _
          have HFE : Hid ((bflat xs.length pl []).set ((pre.length - 1) * 4 + 1) (.int .i64 (x.1 : Int)) ++ [.int .i64 (x.1 : Int), .int .i64 (xs.length : Int), .slice none 0 0, .slice none 0 0] = bflat xs.length (pl ++ [x.1]) []) := by
            show _ = _
            rw [show (pre.length - 1) * 4 + 1 = 4 * (pl.length - 1) + 1 by omega]
            exact HFL.out (by omega)
          gi_wp2_with (gi_at_builtin; refine wpListIn_append_own _ rfl _ _ 32 rfl wo.heap.size 41 i0 (.agg #[.int .i64 0, .int .i64 0, .slice none 0 0, .slice none 0 0]) 4 64 Tryd.underlying32 hi hz0 hz1 hz2 rfl (by decide) _ _ _ rfl (hrow3.alloc _) ⟨W.heap.size, 0, none⟩ 1 1 [.int .i64 (x.1 : Int), .int .i64 (xs.length : Int), .slice none 0 0, .slice none 0 0] rfl rfl hc4 (by simp [Value.oneCell']) (by unfold maxLen; omega) (by omega) (by simp; omega) ?_; intro v' w1 hown' hgrow _; obtain ⟨g2, cap2, rfl⟩ := ownsRow_succ hown'; obtain ⟨hv1, hv2, hr2, hk2, hb2⟩ := hv3.appended (by decide) hrow3 (by simp; omega) (Nat.le_refl _) hown' hgrow; have HGR := Lib.hid hgrow; have hc1 := hv1.cell; have hf1 := hv1.frozen)
          have hU3 : Upd (wo.heap.size :: (Value.slice (some ⟨g', 0, none⟩) pre.length c').ownBlock.toList) ((W.setCell ⟨g', (pre.length - 1) * 4 + 1, none⟩ (.int .i64 (x.1 : Int))).setCell ⟨wo.heap.size + 1, x.1, none⟩ (.int .i64 (pre.length : Int))) (w1.setCell ⟨wo.heap.size, 0, none⟩ (.slice (some ⟨g2, 0, none⟩) (pre.length + 1) cap2)) := (((Upd.refl _ _).alloc _).grown HGR.out (fun q hq => .inl (List.mem_cons_of_mem _ (Option.mem_toList.2 hq)))).setCell (.inl (by simp)) _
          have hBW := (((Below.refl _ W).setCell (p := ⟨g', (pre.length - 1) * 4 + 1, none⟩) hg1 _).setCell (p := ⟨wo.heap.size + 1, x.1, none⟩) (by simp) _).trans hb2
          rw [HFE.out] at hr2
          refine ⟨(((KeepsOthers.setCell W _ _).trans (KeepsOthers.setCell _ _ _)).trans hk2).from _, keepB_of_below' (by omega) htl hBW, ⟨⟨⟨_, hv2, by rw [HMAP.out, HLEN.out]; exact hr2, trivial⟩, ?_⟩, ?_⟩, hB.trans hBW⟩
          · rw [hU3.heap HAT2.out (by simp only [List.mem_cons, not_or]; exact ⟨by omega, hna⟩), HMAP.out, HSN.out]
            simp [icells, ints, List.map_set, HPL]
          · exact hU3.heap (HU2.out.heap htb (by simp only [List.mem_cons, not_or]; exact ⟨by omega, hnt⟩)) (by simp only [List.mem_cons, not_or]; exact ⟨by omega, hnt⟩)
          -- B2>
      case done =>
        rintro D ys W hD hys ⟨⟨⟨⟨v, hv, hrow, _⟩, hat⟩, htb⟩, hB⟩ hK
        have hBL : blist ws = begL xs := blist_eq ws xs.length _ hB1.out (fun p hp => by unfold begU at hp; simp at hp; exact hp.1) hset.2.2.2.1
        rw [hys, hBL] at hrow hat
        have hyl : ys.length = (begL xs).length := by rw [← hBL, ← hys]; simp
        rw [hyl] at hrow
        have hm1 := begL_pos xs hn1
        have hm2 : (begL xs).length ≤ xs.length := by rw [← hBL]; exact hbl
        obtain ⟨gb, c', cur, rfl, hg1, hg2, hg3, hg4, hg5, hg6⟩ := hrow.2.resolve_left (fun h => by omega)
        have hC0 : OwnC W wo.heap.size W.heap.size gb xs.length (begL xs) (List.replicate (2 * (begL xs).length) (.slice none 0 0)) (est xs 0) := OwnC.start hg2 (by rw [Nat.mul_comm]; exact hg6) hg1 hB.size
        have HC0 := Lib.hid hC0
        have hnb0 : gb ≠ wo.heap.size := by
          rintro rfl
          rw [show W.heap[wo.heap.size]? = _ from hv] at hg2
          injection hg2 with hg2
          injection hg2 with _ hg2 _
          exact absurd hg2 (by decide)
        have hnb1 : gb ≠ wo.heap.size + 1 := by
          rintro rfl
          rw [hat] at hg2
          injection hg2 with hg2
          injection hg2 with _ hg2 _
          exact absurd hg2 (by decide)
        have hnb2 : gb ≠ wo.heap.size + 1 + 1 := by
          rintro rfl
          rw [show W.heap[wo.heap.size + 1 + 1]? = _ from htb] at hg2
          injection hg2 with hg2
          injection hg2 with _ hg2 _
          exact absurd hg2 (by decide)
        have hnbD : gb ≠ D := by
          rintro rfl
          rw [hK] at hg2
          injection hg2 with hg2
          cases hg2
        have HUW2 := Lib.hid (HUO.out.trans' (Upd.of_below hB) (by simp))
        have HMW := Lib.hid ((Upd.of_below hB).heap HMO.out (by simp))
        have HV := Lib.hid hv
        have HATW := Lib.hid hat
        have HTB := Lib.hid htb
        have HK := Lib.hid hK
        have hcv := hv.cell
        have HTO := Lib.hid (fun i => toL_bd xs i)
        have HNN := Lib.hid (fun i => nextL_nonneg xs ((((begL xs).getD (i + 1) xs.length : Nat) : Int) - 1) HA.out)
        clear hB hrow hys hC0 hv hat htb hK hBL hg2 hg6 hset htz htl bO bA bT bN hB0 hUW hyl hi hz0 hz1 hz2 hm3
        obtain ⟨i1, ji, jz0, jz1, jz2⟩ := info_parts Tryd.infoInt
        have HI := Lib.hid ji
        have HZ0 := Lib.hid jz0
        have HZ1 := Lib.hid jz1
        have HZ2 := Lib.hid jz2
        clear ji jz0 jz1 jz2
        generalize hbg : begL xs = pl at HC0 hm1 hm2 hcv HV HATW HTO HNN
        have HBG := Lib.hid hbg
        clear hbg
        go_wp2_with fail
        go_loopw [78] (fun iv wr => ∃ (i : Nat) (vs : List Value), i ≤ pl.length ∧ iv = .int .i64 i ∧ Hid (OwnC wr wo.heap.size W.heap.size gb xs.length pl vs (est xs i)) ∧ Hid (Upd [gb] W wr)) (fun iv _ => pl.length - (intOf iv).toNat)
        case atStart => exact ⟨0, _, by omega, rfl, HC0, Upd.refl _ _⟩
        case round =>
          obtain ⟨i, vs, hi, rfl, hC, hU⟩ := hrel
          obtain ⟨wq, rfl⟩ : ∃ wq : World, wq = wr := ⟨_, rfl⟩
          by_cases hlt : i < pl.length
          · have hb4 := hC.out.to i hlt
            have hvq : Boxed wq wo.heap.size 32 _ := hU.out.heap HV.out (by simp; exact fun e => hnb0 e.symm)
            have hcvq := hvq.cell
            have hmq := hU.out.heap HMW.out (by simp; omega)
            have hm0 := cell_of hmq 0
            have hm1' := cell_of hmq 1
            have hm2' := cell_of hmq 2
            have hm3 := cell_of hmq 3
            simp only [List.getElem?_toArray, List.getElem?_cons_zero, List.getElem?_cons_succ] at hm0 hm1' hm2' hm3
            have hto := HTO.out (i + 1)
            have HUQ : Hid (Upd [] w wq) := HUW2.out.trans' hU.out (fun q hq hlt2 => by simp at hq; omega)
            have HNX := Lib.hid (next_any s1 s2 s3 (.slice a xs.length cap) xs (((pl.getD (i + 1) xs.length : Nat) : Int) - 1) wq.drew (HCODE.out.upd HUQ.out.drew) hn)
            have HNL := Lib.hid (nextL_len xs (((pl.getD (i + 1) xs.length : Nat) : Int) - 1))
            have HNE := Lib.hid (HNN.out i)
            have HES := Lib.hid (est_succ xs i)
            rw [HBG.out] at HES
            generalize hnx : nextL xs (((pl.getD (i + 1) xs.length : Nat) : Int) - 1) = nx at HNX HNL HNE HES
            clear hnx
            generalize pl.getD (i + 1) xs.length = tv at hb4 hto HNX
            rw [← show IntKind.i64.wrap ((tv : Int) - 1) = (tv : Int) - 1 from IntWalk.i64_in _ (by omega)] at HNX
            clear hmq hvq
            go_wp2_with fail
            go_region_held3 (fun w' => w'.cell? ⟨w.heap.size, 0, none⟩ = some (.string s1) ∧ w'.cell? ⟨w.heap.size, 1, none⟩ = some (.string s2) ∧ w'.cell? ⟨w.heap.size, 2, none⟩ = some (.string s3) ∧ w'.cell? ⟨w.heap.size, 3, none⟩ = some (.slice a xs.length cap) ∧ w'.cell? ⟨wo.heap.size, 0, none⟩ = some (.slice (some ⟨gb, 0, none⟩) pl.length c') ∧ w'.cell? ⟨gb, i * 4 + 1, none⟩ = some (.int .i64 (tv : Int)))
              (first | exact ⟨hk0, hk1, hk2, hk3, hk4, hk5⟩ | exact ⟨hm0, hm1', hm2', hm3, hcvq, hb4⟩ | go_keep)
              ((go_at_call 34; refine HNX.out.mono ?_; rintro e w3 ⟨u, rfl, hun, hu3⟩; have hk0 := hu3.cell (p := ⟨w.heap.size, 0, none⟩) hm0 (by simp); have hk1 := hu3.cell (p := ⟨w.heap.size, 1, none⟩) hm1' (by simp); have hk2 := hu3.cell (p := ⟨w.heap.size, 2, none⟩) hm2' (by simp); have hk3 := hu3.cell (p := ⟨w.heap.size, 3, none⟩) hm3 (by simp); have hk4 := hu3.cell (p := ⟨wo.heap.size, 0, none⟩) hcvq (by simp); have hk5 := hu3.cell (p := ⟨gb, i * 4 + 1, none⟩) hb4 (by simp); obtain ⟨p3, c3, rfl⟩ := hun.shape))
            have hu3' : Upd [] wq w3 := ((Upd.refl [] wq).drew).trans hu3
            have HC3 := Lib.hid (hC.out.upd hu3' (by simp) (by simp))
            have HU3 := Lib.hid (hU.out.trans' hu3' (by simp))
            have HUN : Hid (OwnI w3 wq.heap.size 3 (.slice p3 nx.length c3) nx) := hun
            have HAP : Hid (∀ q, q < 2 * pl.length → ∀ k, (vs.getD q undef).ownBlock = some k → (Value.slice p3 nx.length c3).ownBlock ≠ some k) := fun q hq k hk hk' => by
              have h1 := ((hC.out.own q (by rw [hC.out.two]; exact hq)).lt k hk).2
              have h2 := (HUN.out.lt k hk').1
              omega
            have hnl := HNL.out
            clear hk0 hk1 hk2 hk3 hk4 hk5 hm0 hm1' hm2' hm3 hcvq hb4 hu3 hu3' hun HNX hC hU HUQ
            go_wp2_with fail
            go_loopw [90] (fun jv wr => ∃ (j : Nat) (vs : List Value), j ≤ nx.length ∧ jv = .int .i64 j ∧ Hid (OwnC wr wo.heap.size W.heap.size gb xs.length pl vs (eRow xs.length (atL xs.length pl) i (nx.take j) (est xs i))) ∧ Hid (Upd [gb] W wr) ∧ Hid (OwnI wr wq.heap.size 3 (.slice p3 nx.length c3) nx) ∧
              Hid (∀ q, q < 2 * pl.length → ∀ k, (vs.getD q undef).ownBlock = some k → (Value.slice p3 nx.length c3).ownBlock ≠ some k)) (fun jv _ => nx.length - (intOf jv).toNat)
            case atStart => exact ⟨0, vs, by omega, rfl, HC3, HU3, HUN, HAP⟩
            case round =>
              clear HC3 HU3 HUN HAP
              obtain ⟨j, vs, hj, rfl, HC, HU, HUN, HAP⟩ := hrel
              obtain ⟨wk, rfl⟩ : ∃ wk : World, wk = wr := ⟨_, rfl⟩
              by_cases hjl : j < nx.length
              · obtain ⟨ub, uc, e1, _, _, hy⟩ := HUN.out.nth j hjl
                injection e1 with e1 _ e3
                subst e1
                subst e3
                have hpc0 := HNE.out (nx.getD j 0) (by
                  rw [List.getD_eq_getElem?_getD, List.getElem?_eq_getElem hjl]
                  exact List.getElem_mem hjl)
                have HST := Lib.hid (eRow_step xs.length (atL xs.length pl) i nx (est xs i) j hjl)
                generalize hpc : nx.getD j 0 = pc at hy hpc0 HST
                have hmq := HU.out.heap HMW.out (by simp; omega)
                have hm3 : wk.cell? ⟨w.heap.size, 3, none⟩ = some (.slice a xs.length cap) := by rw [cell_of hmq]; rfl
                clear hmq hpc
                by_cases hpn : pc < (xs.length : Int)
                · obtain ⟨pn, rfl⟩ := Int.eq_ofNat_of_zero_le hpc0
                  have hpn2 : pn < xs.length := by omega
                  have HST2 := HST.out
                  rw [if_pos hpn, Int.toNat_natCast] at HST2
                  have HST2 := Lib.hid HST2
                  have HCA : Hid (∀ wx : World, Upd [gb] W wx → wx.cell? ⟨wo.heap.size + 1, pn, none⟩ = some (.int .i64 (((atL xs.length pl).getD pn 0 : Nat) : Int))) := fun wx hux => by
                    have hat := hux.heap HATW.out (by simp; exact fun e => hnb1 e.symm)
                    rw [cell_of hat, icells_get _ _ (by rw [ints_len, atL_len]; exact hpn2), ints_get _ _ (by rw [atL_len]; exact hpn2)]
                  have hca := HCA.out wk HU.out
                  have hkb : (atL xs.length pl).getD pn 0 < pl.length := by
                    rcases atL_bd xs.length pl pn with h | h <;> omega
                  have hrm : rmax (eRow xs.length (atL xs.length pl) i (nx.take j) (est xs i)) (2 * i + j) := by
                    have := rmax_eRow (rmax_est xs i) xs.length (atL xs.length pl) i (nx.take j)
                    rw [List.length_take, Nat.min_eq_left (by omega)] at this
                    exact this
                  generalize (atL xs.length pl).getD pn 0 = kb at hca hkb HST2 HCA
                  generalize eRow xs.length (atL xs.length pl) i (nx.take j) (est xs i) = rows at HC HST2 hrm
                  have hvk : Boxed wk wo.heap.size 32 _ := HU.out.heap HV.out (by simp; exact fun e => hnb0 e.symm)
                  have hcvk := hvk.cell
                  have htk : Boxed wk (wo.heap.size + 1 + 1) 28 _ := HU.out.heap HTB.out (by simp; exact fun e => hnb2 e.symm)
                  have hctk := htk.cell
                  have hWs : wo.heap.size + 1 + 1 < W.heap.size := lt_of_heap HTB.out
                  have hWk := HU.out.size
                  have hcr : wk.cell? ⟨gb, i * 4 + 2, none⟩ = some (vs.getD (2 * i) undef) := HC.out.row i 0 hlt (by omega)
                  have hrw := HC.out.own (2 * i) (by rw [HC.out.two]; omega)
                  obtain ⟨sp, sc, hsv⟩ := hrw.shape
                  rw [hsv] at hcr
                  have hrb := hrm (2 * i)
                  have HRW := Lib.hid hrw
                  have HSV := Lib.hid hsv
                  have HRM := Lib.hid hrm
                  have hd : decide ((pn : Int) < (xs.length : Int)) = true := decide_eq_true hpn
                  clear hrw hsv hvk htk hrm
                  go_upto_region 29 with fail
                  go_cut [] from 99 to 132 (fun wx => ∃ vs : List Value, Hid (OwnC wx wo.heap.size W.heap.size gb xs.length pl vs (rows.set (2 * i) (rows.getD (2 * i) [] ++ [(kb : Int)]))) ∧ Hid (Upd [gb] W wx) ∧ Hid (OwnI wx wq.heap.size 3 (.slice (some ⟨ub, 0, none⟩) nx.length c3) nx) ∧
                    Hid (∀ q, q < 2 * pl.length → ∀ k, (vs.getD q undef).ownBlock = some k → (Value.slice (some ⟨ub, 0, none⟩) nx.length c3).ownBlock ≠ some k))
                  case first =>
                    have hrw2 := World.ownsRow.drew HRW.out
                    rw [HSV.out] at hrw2
                    have HRW2 := Lib.hid hrw2
                    clear hrw2
                    have hcv2 := fun o => ((Upd.refl [] wk).drew.alloc o).cell hcvk (by simp)
                    have hct2 := fun o => ((Upd.refl [] wk).drew.alloc o).cell hctk (by simp)
                    have hca2 := fun o => ((Upd.refl [] wk).drew.alloc o).cell hca (by simp)
                    have hcr2 := fun o => ((Upd.refl [] wk).alloc o).cell hcr (by simp)
                    refine wp_region_noPanic ?_
                    refine wp_region_held_drew (S := fun w' => w'.cell? ⟨wo.heap.size, 0, none⟩ = some (.slice (some ⟨gb, 0, none⟩) pl.length c') ∧ w'.cell? ⟨wo.heap.size + 1 + 1, 0, none⟩ = some (.slice (some ⟨wo.heap.size + 1, 0, none⟩) xs.length xs.length) ∧ w'.cell? ⟨wo.heap.size + 1, pn, none⟩ = some (.int .i64 (kb : Int))) (by kernel_rfl) ?_ (fun hHeld => ?_)
                    · first | exact ⟨hcvk, hctk, hca⟩ | exact ⟨hcv2 _, hct2 _, hca2 _⟩ | exact ⟨hk0, hk1, hk2⟩ | exact ⟨hs0 _, hs1 _, hs2 _⟩
                    refine wpAnyH_take (i := 0) (oi := ?_) (v := ?_) ?_ (by kernel_rfl) (by kernel_rfl) (by kernel_rfl) (fun _ _ _ h => h) (Or.inl ⟨?_, ?_⟩) hHeld ?_
                    rotate_left 2
                    · simp only [List.getElem?_toArray, List.getElem?_cons_zero]; rfl
                    · rfl
                    · intro _ hSw; (try dsimp only at hSw); go_simp <;> with_reducible rfl
                    (try simp only [Act.put, List.setIfInBounds_toArray, List.set_cons_zero, List.set_cons_succ])
                    refine wpAnyH_take (i := 1) (oi := ?_) (v := ?_) ?_ (by kernel_rfl) (by kernel_rfl) (by kernel_rfl) (fun _ _ _ h => h) (Or.inl ⟨?_, ?_⟩) hHeld ?_
                    rotate_left 2
                    · simp only [List.getElem?_toArray, List.getElem?_cons_zero, List.getElem?_cons_succ]; rfl
                    · rfl
                    · intro _ hSw; (try dsimp only at hSw); go_simp <;> with_reducible rfl
                    (try simp only [Act.put, List.setIfInBounds_toArray, List.set_cons_zero, List.set_cons_succ])
                    refine wpAnyH_take (i := 2) (oi := ?_) (v := ?_) ?_ (by kernel_rfl) (by kernel_rfl) (by kernel_rfl) (fun _ _ _ h => h) (Or.inl ⟨?_, ?_⟩) hHeld ?_
                    rotate_left 2
                    · simp only [List.getElem?_toArray, List.getElem?_cons_zero, List.getElem?_cons_succ]; rfl
                    · rfl
                    · intro _ hSw; (try dsimp only at hSw); go_simp <;> with_reducible rfl
                    (try simp only [Act.put, List.setIfInBounds_toArray, List.set_cons_zero, List.set_cons_succ])
                    refine wpAnyH_take (i := 3) (oi := ?_) (v := ?_) ?_ (by kernel_rfl) (by kernel_rfl) (by kernel_rfl) (fun _ _ _ h => h) (Or.inl ⟨?_, ?_⟩) hHeld ?_
                    rotate_left 2
                    · simp only [List.getElem?_toArray, List.getElem?_cons_zero, List.getElem?_cons_succ]; rfl
                    · rfl
                    · intro _ hSw; (try dsimp only at hSw); go_simp <;> with_reducible rfl
                    (try simp only [Act.put, List.setIfInBounds_toArray, List.set_cons_zero, List.set_cons_succ])
                    refine wpAnyH_take (i := 4) (oi := ?_) (v := ?_) ?_ (by kernel_rfl) (by kernel_rfl) (by kernel_rfl) (fun _ _ _ h => h) (Or.inl ⟨?_, ?_⟩) hHeld ?_
                    rotate_left 2
                    · simp only [List.getElem?_toArray, List.getElem?_cons_zero, List.getElem?_cons_succ]; rfl
                    · rfl
                    · intro _ hSw; (try dsimp only at hSw); go_simp <;> with_reducible rfl
                    (try simp only [Act.put, List.setIfInBounds_toArray, List.set_cons_zero, List.set_cons_succ])
                    refine wpAnyH_take (i := 5) (oi := ?_) (v := ?_) ?_ (by kernel_rfl) (by kernel_rfl) (by kernel_rfl) (fun _ _ _ h => h) (Or.inl ⟨?_, ?_⟩) hHeld ?_
                    rotate_left 2
                    · simp only [List.getElem?_toArray, List.getElem?_cons_zero, List.getElem?_cons_succ]; rfl
                    · rfl
                    · intro _ hSw; (try dsimp only at hSw); go_simp <;> with_reducible rfl
                    (try simp only [Act.put, List.setIfInBounds_toArray, List.set_cons_zero, List.set_cons_succ])
                    refine wpAnyH_take (i := 7) (oi := ?_) (v := ?_) ?_ (by kernel_rfl) (by kernel_rfl) (by kernel_rfl) (fun _ _ _ h => h) (Or.inl ⟨?_, ?_⟩) hHeld ?_
                    rotate_left 2
                    · simp only [List.getElem?_toArray, List.getElem?_cons_zero, List.getElem?_cons_succ]; rfl
                    · rfl
                    · intro _ hSw; (try dsimp only at hSw); go_simp <;> with_reducible rfl
                    (try simp only [Act.put, List.setIfInBounds_toArray, List.set_cons_zero, List.set_cons_succ])
                    refine wpAnyH_take (i := 8) (oi := ?_) (v := ?_) ?_ (by kernel_rfl) (by kernel_rfl) (by kernel_rfl) (fun _ _ _ h => h) (Or.inl ⟨?_, ?_⟩) hHeld ?_
                    rotate_left 2
                    · simp only [List.getElem?_toArray, List.getElem?_cons_zero, List.getElem?_cons_succ]; rfl
                    · rfl
                    · intro _ hSw; (try dsimp only at hSw); go_simp <;> with_reducible rfl
                    (try simp only [Act.put, List.setIfInBounds_toArray, List.set_cons_zero, List.set_cons_succ])
                    refine wpAnyH_take (i := 9) (oi := ?_) (v := ?_) ?_ (by kernel_rfl) (by kernel_rfl) (by kernel_rfl) (fun _ _ _ h => h) (Or.inl ⟨?_, ?_⟩) hHeld ?_
                    rotate_left 2
                    · simp only [List.getElem?_toArray, List.getElem?_cons_zero, List.getElem?_cons_succ]; rfl
                    · rfl
                    · intro _ hSw; (try dsimp only at hSw); go_simp <;> with_reducible rfl
                    (try simp only [Act.put, List.setIfInBounds_toArray, List.set_cons_zero, List.set_cons_succ])
                    refine wpAnyH_take (i := 10) (oi := ?_) (v := ?_) ?_ (by kernel_rfl) (by kernel_rfl) (by kernel_rfl) (fun _ _ _ h => h) (Or.inl ⟨?_, ?_⟩) hHeld ?_
                    rotate_left 2
                    · simp only [List.getElem?_toArray, List.getElem?_cons_zero, List.getElem?_cons_succ]; rfl
                    · rfl
                    · intro _ hSw; (try dsimp only at hSw); go_simp <;> with_reducible rfl
                    (try simp only [Act.put, List.setIfInBounds_toArray, List.set_cons_zero, List.set_cons_succ])
                    refine wpAnyH_ready (rs := [6, 11]) (by kernel_rfl) (by simp) ?_
                    refine (AllReadyH.cons (o := ?o6) ?ho6 (fun K hK => ?w6) (AllReadyH.cons (o := ?o11) ?ho11 (fun K hK => ?w11) AllReadyH.nil))
                    case ho6 => (simp only [List.getElem?_toArray, List.getElem?_cons_zero, List.getElem?_cons_succ]; rfl)
                    case ho11 => (simp only [List.getElem?_toArray, List.getElem?_cons_zero, List.getElem?_cons_succ]; rfl)
                    case' w6 =>
                      clear hHeld
                      go_simp
                      refine hK.out _ _ ?_ (fun hHeld => ?_)
                      · first | exact ⟨hcvk, hctk, hca⟩ | exact ⟨hcv2 _, hct2 _, hca2 _⟩ | exact ⟨hk0, hk1, hk2⟩ | exact ⟨hs0 _, hs1 _, hs2 _⟩
                      clear hK K
                      (try simp only [Act.put, List.setIfInBounds_toArray, List.set_cons_zero, List.set_cons_succ])
                      refine wpAnyH_ready (rs := [11]) (by kernel_rfl) (by simp) ?_
                      refine AllReadyH.cons (o := ?_) ?_ (fun K hK => ?_) AllReadyH.nil
                      rotate_left 1
                      · simp only [List.getElem?_toArray, List.getElem?_cons_zero, List.getElem?_cons_succ]; rfl
                      clear hHeld
                      go_simp
                      refine hK.out _ _ ?_ (fun hHeld => ?_)
                      · first | exact ⟨hcvk, hctk, hca⟩ | exact ⟨hcv2 _, hct2 _, hca2 _⟩ | exact ⟨hk0, hk1, hk2⟩ | exact ⟨hs0 _, hs1 _, hs2 _⟩
                      clear hK K
                      (try simp only [Act.put, List.setIfInBounds_toArray, List.set_cons_zero, List.set_cons_succ])
                    case' w11 =>
                      clear hHeld
                      go_simp
                      refine hK.out _ _ ?_ (fun hHeld => ?_)
                      · first | exact ⟨hcvk, hctk, hca⟩ | exact ⟨hcv2 _, hct2 _, hca2 _⟩ | exact ⟨hk0, hk1, hk2⟩ | exact ⟨hs0 _, hs1 _, hs2 _⟩
                      clear hK K
                      (try simp only [Act.put, List.setIfInBounds_toArray, List.set_cons_zero, List.set_cons_succ])
                      refine wpAnyH_ready (rs := [6]) (by kernel_rfl) (by simp) ?_
                      refine AllReadyH.cons (o := ?_) ?_ (fun K hK => ?_) AllReadyH.nil
                      rotate_left 1
                      · simp only [List.getElem?_toArray, List.getElem?_cons_zero, List.getElem?_cons_succ]; rfl
                      clear hHeld
                      go_simp
                      refine hK.out _ _ ?_ (fun hHeld => ?_)
                      · first | exact ⟨hcvk, hctk, hca⟩ | exact ⟨hcv2 _, hct2 _, hca2 _⟩ | exact ⟨hk0, hk1, hk2⟩ | exact ⟨hs0 _, hs1 _, hs2 _⟩
                      clear hK K
                      (try simp only [Act.put, List.setIfInBounds_toArray, List.set_cons_zero, List.set_cons_succ])
                    all_goals
                      refine wpAnyH_ready (rs := [12]) (by kernel_rfl) (by simp) ?_
                      refine AllReadyH.cons (o := ?_) ?_ (fun K hK => ?_) AllReadyH.nil
                      rotate_left 1
                      · simp only [List.getElem?_toArray, List.getElem?_cons_zero, List.getElem?_cons_succ]; rfl
                      clear hHeld
                      (refine step_append_own_at rfl (.tmp 105) (.tmp 110) 28 rfl W.heap.size 3 i1 (.int .i64 0) 1 8 Tryd.underlying28 HI.out HZ0.out HZ1.out HZ2.out rfl (by decide) _ _ _ rfl (HRW2.out.alloc _) ⟨wk.heap.size, 0, none⟩ 1 1 [.int .i64 (kb : Int)] rfl rfl (cell_one_new _ _ _) (by simp [Value.oneCell']) (by unfold maxLen; omega) (by omega) (by simp; omega) ?_; intro v' w6 hown' hgrow hat; obtain ⟨hfz, hcc, HP6, HR6, HS6, HT6⟩ := row_push (b := i) (r := 0) HC.out HSV.out hlt (by omega) hown' hgrow hat; obtain ⟨hk0, _⟩ := row_keep (b := i) (r := 0) HC.out HSV.out hlt (by omega) hgrow hcvk (by simp; omega); obtain ⟨hk1, _⟩ := row_keep (b := i) (r := 0) HC.out HSV.out hlt (by omega) hgrow hctk (by simp; omega); obtain ⟨hk2, _⟩ := row_keep (b := i) (r := 0) HC.out HSV.out hlt (by omega) hgrow hca (by simp; omega); have hs0 := fun v => ((Upd.refl [gb] w6).setCell (p := ⟨gb, i * 4 + 2, none⟩) (Or.inl (by simp)) v).cell hk0 (by simp; exact fun e => hnb0 e.symm); have hs1 := fun v => ((Upd.refl [gb] w6).setCell (p := ⟨gb, i * 4 + 2, none⟩) (Or.inl (by simp)) v).cell hk1 (by simp; exact fun e => hnb2 e.symm); have hs2 := fun v => ((Upd.refl [gb] w6).setCell (p := ⟨gb, i * 4 + 2, none⟩) (Or.inl (by simp)) v).cell hk2 (by simp; exact fun e => hnb1 e.symm); have hfz2 : w6.frozen? ⟨gb, i * 4 + 2, none⟩ = false := hfz; have hcc2 : w6.cell? ⟨gb, i * 4 + 2, none⟩ = _ := hcc; have HDN := Lib.hid (row_done (b := i) (r := 0) HC.out HSV.out hlt (by omega) HP6 HR6 HS6 HT6 rfl HU.out HUN.out HAP.out); obtain ⟨g6, c6, rfl⟩ := ownsRow_succ hown'; clear HP6 HR6 HS6 HT6 hown' hgrow hat)
                      refine hK.out _ _ ?_ (fun hHeld => ?_)
                      · first | exact ⟨hcvk, hctk, hca⟩ | exact ⟨hcv2 _, hct2 _, hca2 _⟩ | exact ⟨hk0, hk1, hk2⟩ | exact ⟨hs0 _, hs1 _, hs2 _⟩
                      clear hK K
                      (try simp only [Act.put, List.setIfInBounds_toArray, List.set_cons_zero, List.set_cons_succ])
                      refine wpAnyH_take (i := 13) (oi := ?_) (v := ?_) ?_ (by kernel_rfl) (by kernel_rfl) (by kernel_rfl) (fun _ _ _ h => h) (Or.inl ⟨?_, ?_⟩) hHeld ?_
                      rotate_left 2
                      · simp only [List.getElem?_toArray, List.getElem?_cons_zero, List.getElem?_cons_succ]; rfl
                      · rfl
                      · intro _ hSw; (try dsimp only at hSw); go_simp <;> with_reducible rfl
                      (try simp only [Act.put, List.setIfInBounds_toArray, List.set_cons_zero, List.set_cons_succ])
                      refine wpAnyH_take (i := 14) (oi := ?_) (v := ?_) ?_ (by kernel_rfl) (by kernel_rfl) (by kernel_rfl) (fun _ _ _ h => h) (Or.inl ⟨?_, ?_⟩) hHeld ?_
                      rotate_left 2
                      · simp only [List.getElem?_toArray, List.getElem?_cons_zero, List.getElem?_cons_succ]; rfl
                      · rfl
                      · intro _ hSw; (try dsimp only at hSw); go_simp <;> with_reducible rfl
                      (try simp only [Act.put, List.setIfInBounds_toArray, List.set_cons_zero, List.set_cons_succ])
                      refine wpAnyH_ready (rs := [15]) (by kernel_rfl) (by simp) ?_
                      refine AllReadyH.cons (o := ?_) ?_ (fun K hK => ?_) AllReadyH.nil
                      rotate_left 1
                      · simp only [List.getElem?_toArray, List.getElem?_cons_zero, List.getElem?_cons_succ]; rfl
                      clear hHeld
                      go_simp
                      refine hK.out _ _ ?_ (fun hHeld => ?_)
                      · first | exact ⟨hcvk, hctk, hca⟩ | exact ⟨hcv2 _, hct2 _, hca2 _⟩ | exact ⟨hk0, hk1, hk2⟩ | exact ⟨hs0 _, hs1 _, hs2 _⟩
                      clear hK K
                      (try simp only [Act.put, List.setIfInBounds_toArray, List.set_cons_zero, List.set_cons_succ])
                      refine wpAnyH_done (by kernel_rfl) ?_ _
                      refine NoPanic.normal ?_
                      go_wp2_with fail
                      go_meet
                      exact HDN.out
                  case rest =>
                    clear hcr hcvk hctk hca HRW HSV HC HU HUN HAP hWk hrb sp sc
                    obtain ⟨vs2, HC2, HU2, HUN2, HAP2⟩ := hcut
                    have HST3 := HST2.out
                    unfold eAdd at HST3
                    have HST3 := Lib.hid HST3
                    have HRM2 := Lib.hid (rmax_set HRM.out (2 * i) (kb : Int))
                    clear HST2 HRM HST
                    generalize rows.set (2 * i) (rows.getD (2 * i) [] ++ [(kb : Int)]) = rows2 at HC2 HST3 HRM2
                    have hvk : Boxed wc wo.heap.size 32 _ := HU2.out.heap HV.out (by simp; exact fun e => hnb0 e.symm)
                    have hcvk := hvk.cell
                    have htk : Boxed wc (wo.heap.size + 1 + 1) 28 _ := HU2.out.heap HTB.out (by simp; exact fun e => hnb2 e.symm)
                    have hctk := htk.cell
                    have hca := HCA.out wc HU2.out
                    have hWk := HU2.out.size
                    have hcr : wc.cell? ⟨gb, kb * 4 + 3, none⟩ = some (vs2.getD (2 * kb + 1) undef) := HC2.out.row kb 1 hkb (by omega)
                    have hrw := HC2.out.own (2 * kb + 1) (by rw [HC2.out.two]; omega)
                    obtain ⟨sp, sc, hsv⟩ := hrw.shape
                    rw [hsv] at hcr
                    have hrb := HRM2.out (2 * kb + 1)
                    have hrw2 := World.ownsRow.drew hrw
                    rw [hsv] at hrw2
                    have HRW2 := Lib.hid hrw2
                    have HSV := Lib.hid hsv
                    clear hrw hrw2 hsv hvk htk HCA
                    go_upto_region 30 with fail
                    have hcv2 := fun o => ((Upd.refl [] wc).drew.alloc o).cell hcvk (by simp)
                    have hct2 := fun o => ((Upd.refl [] wc).drew.alloc o).cell hctk (by simp)
                    have hca2 := fun o => ((Upd.refl [] wc).drew.alloc o).cell hca (by simp)
                    have hcr2 := fun o => ((Upd.refl [] wc).alloc o).cell hcr (by simp)
                    refine wp_region_noPanic ?_
                    refine wp_region_held_drew (S := fun w' => w'.cell? ⟨wo.heap.size, 0, none⟩ = some (.slice (some ⟨gb, 0, none⟩) pl.length c') ∧ w'.cell? ⟨wo.heap.size + 1 + 1, 0, none⟩ = some (.slice (some ⟨wo.heap.size + 1, 0, none⟩) xs.length xs.length) ∧ w'.cell? ⟨wo.heap.size + 1, pn, none⟩ = some (.int .i64 (kb : Int))) (by kernel_rfl) ?_ (fun hHeld => ?_)
                    · first | exact ⟨hcvk, hctk, hca⟩ | exact ⟨hcv2 _, hct2 _, hca2 _⟩ | exact ⟨hk0, hk1, hk2⟩ | exact ⟨hs0 _, hs1 _, hs2 _⟩
                    refine wpAnyH_take (i := 0) (oi := ?_) (v := ?_) ?_ (by kernel_rfl) (by kernel_rfl) (by kernel_rfl) (fun _ _ _ h => h) (Or.inl ⟨?_, ?_⟩) hHeld ?_
                    rotate_left 2
                    · simp only [List.getElem?_toArray, List.getElem?_cons_zero]; rfl
                    · rfl
                    · intro _ hSw; (try dsimp only at hSw); go_simp <;> with_reducible rfl
                    (try simp only [Act.put, List.setIfInBounds_toArray, List.set_cons_zero, List.set_cons_succ])
                    refine wpAnyH_take (i := 1) (oi := ?_) (v := ?_) ?_ (by kernel_rfl) (by kernel_rfl) (by kernel_rfl) (fun _ _ _ h => h) (Or.inl ⟨?_, ?_⟩) hHeld ?_
                    rotate_left 2
                    · simp only [List.getElem?_toArray, List.getElem?_cons_zero, List.getElem?_cons_succ]; rfl
                    · rfl
                    · intro _ hSw; (try dsimp only at hSw); go_simp <;> with_reducible rfl
                    (try simp only [Act.put, List.setIfInBounds_toArray, List.set_cons_zero, List.set_cons_succ])
                    refine wpAnyH_take (i := 2) (oi := ?_) (v := ?_) ?_ (by kernel_rfl) (by kernel_rfl) (by kernel_rfl) (fun _ _ _ h => h) (Or.inl ⟨?_, ?_⟩) hHeld ?_
                    rotate_left 2
                    · simp only [List.getElem?_toArray, List.getElem?_cons_zero, List.getElem?_cons_succ]; rfl
                    · rfl
                    · intro _ hSw; (try dsimp only at hSw); go_simp <;> with_reducible rfl
                    (try simp only [Act.put, List.setIfInBounds_toArray, List.set_cons_zero, List.set_cons_succ])
                    refine wpAnyH_take (i := 3) (oi := ?_) (v := ?_) ?_ (by kernel_rfl) (by kernel_rfl) (by kernel_rfl) (fun _ _ _ h => h) (Or.inl ⟨?_, ?_⟩) hHeld ?_
                    rotate_left 2
                    · simp only [List.getElem?_toArray, List.getElem?_cons_zero, List.getElem?_cons_succ]; rfl
                    · rfl
                    · intro _ hSw; (try dsimp only at hSw); go_simp <;> with_reducible rfl
                    (try simp only [Act.put, List.setIfInBounds_toArray, List.set_cons_zero, List.set_cons_succ])
                    refine wpAnyH_take (i := 4) (oi := ?_) (v := ?_) ?_ (by kernel_rfl) (by kernel_rfl) (by kernel_rfl) (fun _ _ _ h => h) (Or.inl ⟨?_, ?_⟩) hHeld ?_
                    rotate_left 2
                    · simp only [List.getElem?_toArray, List.getElem?_cons_zero, List.getElem?_cons_succ]; rfl
                    · rfl
                    · intro _ hSw; (try dsimp only at hSw); go_simp <;> with_reducible rfl
                    (try simp only [Act.put, List.setIfInBounds_toArray, List.set_cons_zero, List.set_cons_succ])
                    refine wpAnyH_take (i := 5) (oi := ?_) (v := ?_) ?_ (by kernel_rfl) (by kernel_rfl) (by kernel_rfl) (fun _ _ _ h => h) (Or.inl ⟨?_, ?_⟩) hHeld ?_
                    rotate_left 2
                    · simp only [List.getElem?_toArray, List.getElem?_cons_zero, List.getElem?_cons_succ]; rfl
                    · rfl
                    · intro _ hSw; (try dsimp only at hSw); go_simp <;> with_reducible rfl
                    (try simp only [Act.put, List.setIfInBounds_toArray, List.set_cons_zero, List.set_cons_succ])
                    refine wpAnyH_take (i := 6) (oi := ?_) (v := ?_) ?_ (by kernel_rfl) (by kernel_rfl) (by kernel_rfl) (fun _ _ _ h => h) (Or.inl ⟨?_, ?_⟩) hHeld ?_
                    rotate_left 2
                    · simp only [List.getElem?_toArray, List.getElem?_cons_zero, List.getElem?_cons_succ]; rfl
                    · rfl
                    · intro _ hSw; (try dsimp only at hSw); go_simp <;> with_reducible rfl
                    (try simp only [Act.put, List.setIfInBounds_toArray, List.set_cons_zero, List.set_cons_succ])
                    refine wpAnyH_take (i := 7) (oi := ?_) (v := ?_) ?_ (by kernel_rfl) (by kernel_rfl) (by kernel_rfl) (fun _ _ _ h => h) (Or.inl ⟨?_, ?_⟩) hHeld ?_
                    rotate_left 2
                    · simp only [List.getElem?_toArray, List.getElem?_cons_zero, List.getElem?_cons_succ]; rfl
                    · rfl
                    · intro _ hSw; (try dsimp only at hSw); go_simp <;> with_reducible rfl
                    (try simp only [Act.put, List.setIfInBounds_toArray, List.set_cons_zero, List.set_cons_succ])
                    refine wpAnyH_take (i := 8) (oi := ?_) (v := ?_) ?_ (by kernel_rfl) (by kernel_rfl) (by kernel_rfl) (fun _ _ _ h => h) (Or.inl ⟨?_, ?_⟩) hHeld ?_
                    rotate_left 2
                    · simp only [List.getElem?_toArray, List.getElem?_cons_zero, List.getElem?_cons_succ]; rfl
                    · rfl
                    · intro _ hSw; (try dsimp only at hSw); go_simp <;> with_reducible rfl
                    (try simp only [Act.put, List.setIfInBounds_toArray, List.set_cons_zero, List.set_cons_succ])
                    refine wpAnyH_take (i := 9) (oi := ?_) (v := ?_) ?_ (by kernel_rfl) (by kernel_rfl) (by kernel_rfl) (fun _ _ _ h => h) (Or.inl ⟨?_, ?_⟩) hHeld ?_
                    rotate_left 2
                    · simp only [List.getElem?_toArray, List.getElem?_cons_zero, List.getElem?_cons_succ]; rfl
                    · rfl
                    · intro _ hSw; (try dsimp only at hSw); go_simp <;> with_reducible rfl
                    (try simp only [Act.put, List.setIfInBounds_toArray, List.set_cons_zero, List.set_cons_succ])
                    refine wpAnyH_take (i := 10) (oi := ?_) (v := ?_) ?_ (by kernel_rfl) (by kernel_rfl) (by kernel_rfl) (fun _ _ _ h => h) (Or.inl ⟨?_, ?_⟩) hHeld ?_
                    rotate_left 2
                    · simp only [List.getElem?_toArray, List.getElem?_cons_zero, List.getElem?_cons_succ]; rfl
                    · rfl
                    · intro _ hSw; (try dsimp only at hSw); go_simp <;> with_reducible rfl
                    (try simp only [Act.put, List.setIfInBounds_toArray, List.set_cons_zero, List.set_cons_succ])
                    refine wpAnyH_take (i := 11) (oi := ?_) (v := ?_) ?_ (by kernel_rfl) (by kernel_rfl) (by kernel_rfl) (fun _ _ _ h => h) (Or.inl ⟨?_, ?_⟩) hHeld ?_
                    rotate_left 2
                    · simp only [List.getElem?_toArray, List.getElem?_cons_zero, List.getElem?_cons_succ]; rfl
                    · rfl
                    · intro _ hSw; (try dsimp only at hSw); go_simp <;> with_reducible rfl
                    (try simp only [Act.put, List.setIfInBounds_toArray, List.set_cons_zero, List.set_cons_succ])
                    refine wpAnyH_take (i := 13) (oi := ?_) (v := ?_) ?_ (by kernel_rfl) (by kernel_rfl) (by kernel_rfl) (fun _ _ _ h => h) (Or.inl ⟨?_, ?_⟩) hHeld ?_
                    rotate_left 2
                    · simp only [List.getElem?_toArray, List.getElem?_cons_zero, List.getElem?_cons_succ]; rfl
                    · rfl
                    · intro _ hSw; (try dsimp only at hSw); go_simp <;> with_reducible rfl
                    (try simp only [Act.put, List.setIfInBounds_toArray, List.set_cons_zero, List.set_cons_succ])
                    refine wpAnyH_ready (rs := [12, 14]) (by kernel_rfl) (by simp) ?_
                    refine (AllReadyH.cons (o := ?o12) ?ho12 (fun K hK => ?w12) (AllReadyH.cons (o := ?o14) ?ho14 (fun K hK => ?w14) AllReadyH.nil))
                    case ho12 => (simp only [List.getElem?_toArray, List.getElem?_cons_zero, List.getElem?_cons_succ]; rfl)
                    case ho14 => (simp only [List.getElem?_toArray, List.getElem?_cons_zero, List.getElem?_cons_succ]; rfl)
                    case' w12 =>
                      clear hHeld
                      go_simp
                      refine hK.out _ _ ?_ (fun hHeld => ?_)
                      · first | exact ⟨hcvk, hctk, hca⟩ | exact ⟨hcv2 _, hct2 _, hca2 _⟩ | exact ⟨hk0, hk1, hk2⟩ | exact ⟨hs0 _, hs1 _, hs2 _⟩
                      clear hK K
                      (try simp only [Act.put, List.setIfInBounds_toArray, List.set_cons_zero, List.set_cons_succ])
                      refine wpAnyH_ready (rs := [14]) (by kernel_rfl) (by simp) ?_
                      refine AllReadyH.cons (o := ?_) ?_ (fun K hK => ?_) AllReadyH.nil
                      rotate_left 1
                      · simp only [List.getElem?_toArray, List.getElem?_cons_zero, List.getElem?_cons_succ]; rfl
                      clear hHeld
                      go_simp
                      refine hK.out _ _ ?_ (fun hHeld => ?_)
                      · first | exact ⟨hcvk, hctk, hca⟩ | exact ⟨hcv2 _, hct2 _, hca2 _⟩ | exact ⟨hk0, hk1, hk2⟩ | exact ⟨hs0 _, hs1 _, hs2 _⟩
                      clear hK K
                      (try simp only [Act.put, List.setIfInBounds_toArray, List.set_cons_zero, List.set_cons_succ])
                    case' w14 =>
                      clear hHeld
                      go_simp
                      refine hK.out _ _ ?_ (fun hHeld => ?_)
                      · first | exact ⟨hcvk, hctk, hca⟩ | exact ⟨hcv2 _, hct2 _, hca2 _⟩ | exact ⟨hk0, hk1, hk2⟩ | exact ⟨hs0 _, hs1 _, hs2 _⟩
                      clear hK K
                      (try simp only [Act.put, List.setIfInBounds_toArray, List.set_cons_zero, List.set_cons_succ])
                      refine wpAnyH_ready (rs := [12]) (by kernel_rfl) (by simp) ?_
                      refine AllReadyH.cons (o := ?_) ?_ (fun K hK => ?_) AllReadyH.nil
                      rotate_left 1
                      · simp only [List.getElem?_toArray, List.getElem?_cons_zero, List.getElem?_cons_succ]; rfl
                      clear hHeld
                      go_simp
                      refine hK.out _ _ ?_ (fun hHeld => ?_)
                      · first | exact ⟨hcvk, hctk, hca⟩ | exact ⟨hcv2 _, hct2 _, hca2 _⟩ | exact ⟨hk0, hk1, hk2⟩ | exact ⟨hs0 _, hs1 _, hs2 _⟩
                      clear hK K
                      (try simp only [Act.put, List.setIfInBounds_toArray, List.set_cons_zero, List.set_cons_succ])
                    all_goals
                      refine wpAnyH_ready (rs := [15]) (by kernel_rfl) (by simp) ?_
                      refine AllReadyH.cons (o := ?_) ?_ (fun K hK => ?_) AllReadyH.nil
                      rotate_left 1
                      · simp only [List.getElem?_toArray, List.getElem?_cons_zero, List.getElem?_cons_succ]; rfl
                      clear hHeld
                      (refine step_append_own_at rfl (.tmp 126) (.tmp 128) 28 rfl W.heap.size 3 i1 (.int .i64 0) 1 8 Tryd.underlying28 HI.out HZ0.out HZ1.out HZ2.out rfl (by decide) _ _ _ rfl (HRW2.out.alloc _) ⟨wc.heap.size, 0, none⟩ 1 1 [.int .i64 (i : Int)] rfl rfl (cell_one_new _ _ _) (by simp [Value.oneCell']) (by unfold maxLen; omega) (by omega) (by simp; omega) ?_; intro v' w6 hown' hgrow hat; obtain ⟨hfz, hcc, HP6, HR6, HS6, HT6⟩ := row_push (b := kb) (r := 1) HC2.out HSV.out hkb (by omega) hown' hgrow hat; obtain ⟨hk0, _⟩ := row_keep (b := kb) (r := 1) HC2.out HSV.out hkb (by omega) hgrow hcvk (by simp; omega); obtain ⟨hk1, _⟩ := row_keep (b := kb) (r := 1) HC2.out HSV.out hkb (by omega) hgrow hctk (by simp; omega); obtain ⟨hk2, _⟩ := row_keep (b := kb) (r := 1) HC2.out HSV.out hkb (by omega) hgrow hca (by simp; omega); have hs0 := fun v => ((Upd.refl [gb] w6).setCell (p := ⟨gb, kb * 4 + 3, none⟩) (Or.inl (by simp)) v).cell hk0 (by simp; exact fun e => hnb0 e.symm); have hs1 := fun v => ((Upd.refl [gb] w6).setCell (p := ⟨gb, kb * 4 + 3, none⟩) (Or.inl (by simp)) v).cell hk1 (by simp; exact fun e => hnb2 e.symm); have hs2 := fun v => ((Upd.refl [gb] w6).setCell (p := ⟨gb, kb * 4 + 3, none⟩) (Or.inl (by simp)) v).cell hk2 (by simp; exact fun e => hnb1 e.symm); have hfz2 : w6.frozen? ⟨gb, kb * 4 + 3, none⟩ = false := hfz; have hcc2 : w6.cell? ⟨gb, kb * 4 + 3, none⟩ = _ := hcc; have HDN := Lib.hid (row_done (b := kb) (r := 1) HC2.out HSV.out hkb (by omega) HP6 HR6 HS6 HT6 rfl HU2.out HUN2.out HAP2.out); obtain ⟨g6, c6, rfl⟩ := ownsRow_succ hown'; clear HP6 HR6 HS6 HT6 hown' hgrow hat)
                      refine hK.out _ _ ?_ (fun hHeld => ?_)
                      · first | exact ⟨hcvk, hctk, hca⟩ | exact ⟨hcv2 _, hct2 _, hca2 _⟩ | exact ⟨hk0, hk1, hk2⟩ | exact ⟨hs0 _, hs1 _, hs2 _⟩
                      clear hK K
                      (try simp only [Act.put, List.setIfInBounds_toArray, List.set_cons_zero, List.set_cons_succ])
                      refine wpAnyH_take (i := 16) (oi := ?_) (v := ?_) ?_ (by kernel_rfl) (by kernel_rfl) (by kernel_rfl) (fun _ _ _ h => h) (Or.inl ⟨?_, ?_⟩) hHeld ?_
                      rotate_left 2
                      · simp only [List.getElem?_toArray, List.getElem?_cons_zero, List.getElem?_cons_succ]; rfl
                      · rfl
                      · intro _ hSw; (try dsimp only at hSw); go_simp <;> with_reducible rfl
                      (try simp only [Act.put, List.setIfInBounds_toArray, List.set_cons_zero, List.set_cons_succ])
                      refine wpAnyH_take (i := 17) (oi := ?_) (v := ?_) ?_ (by kernel_rfl) (by kernel_rfl) (by kernel_rfl) (fun _ _ _ h => h) (Or.inl ⟨?_, ?_⟩) hHeld ?_
                      rotate_left 2
                      · simp only [List.getElem?_toArray, List.getElem?_cons_zero, List.getElem?_cons_succ]; rfl
                      · rfl
                      · intro _ hSw; (try dsimp only at hSw); go_simp <;> with_reducible rfl
                      (try simp only [Act.put, List.setIfInBounds_toArray, List.set_cons_zero, List.set_cons_succ])
                      refine wpAnyH_ready (rs := [18]) (by kernel_rfl) (by simp) ?_
                      refine AllReadyH.cons (o := ?_) ?_ (fun K hK => ?_) AllReadyH.nil
                      rotate_left 1
                      · simp only [List.getElem?_toArray, List.getElem?_cons_zero, List.getElem?_cons_succ]; rfl
                      clear hHeld
                      go_simp
                      refine hK.out _ _ ?_ (fun hHeld => ?_)
                      · first | exact ⟨hcvk, hctk, hca⟩ | exact ⟨hcv2 _, hct2 _, hca2 _⟩ | exact ⟨hk0, hk1, hk2⟩ | exact ⟨hs0 _, hs1 _, hs2 _⟩
                      clear hK K
                      (try simp only [Act.put, List.setIfInBounds_toArray, List.set_cons_zero, List.set_cons_succ])
                      refine wpAnyH_done (by kernel_rfl) ?_ _
                      refine NoPanic.normal ?_
                      obtain ⟨vs3, HC5, HU5, HUN5, HAP5⟩ := HDN.out
                      clear HDN hHeld
                      go_wp2_with fail
                      go_roundw
                      case rel => exact ⟨j + 1, vs3, by omega, by go_num, (by rw [HST3.out]; exact HC5), HU5, HUN5, HAP5⟩
                      case measure => simp [intOf]; omega
                · have dn : decide (pc < (xs.length : Int)) = false := decide_eq_false hpn
                  have HST2 := HST.out
                  rw [if_neg hpn] at HST2
                  have HST2 := Lib.hid HST2
                  go_wp2_with fail
                  go_roundw
                  case rel => exact ⟨j + 1, vs, by omega, by go_num, (by rw [HST2.out]; exact HC), HU, HUN, HAP⟩
                  case measure => simp [intOf]; omega
              · obtain rfl : j = nx.length := by omega
                have HC4 := HC.out
                rw [List.take_length, ← HES.out] at HC4
                have HC4 := Lib.hid HC4
                go_wp2_with fail
                go_roundw
                case rel => exact ⟨i + 1, vs, by omega, by go_num, HC4, HU⟩
                case measure => simp [intOf]; omega
          · obtain rfl : i = pl.length := by omega
            have hvq : Boxed wq wo.heap.size 32 _ := hU.out.heap HV.out (by simp; exact fun e => hnb0 e.symm)
            have hcvq := hvq.cell
            have hKq := hU.out.heap HK.out (by simp; exact fun e => hnbD e.symm)
            go_wp2_with fail
            refine ⟨by simp, .inl ⟨_, _, rfl, run_takeDeferred hKq, ?_⟩⟩
            have hUD : Upd [D] wq (wq.putObj D (.deferred none)) := (Upd.refl [D] wq).grown (grownBy_putObj' wq D (.deferred none)) (fun q hq => .inl (by cases hq; simp))
            refine ⟨_, results_tmp rfl _ _ _, wo.heap.size, W.heap.size, gb, vs, c', by rw [HBG.out]; rfl, ?_, by omega, ?_⟩
            · rw [HBG.out]
              refine hC.out.upd hUD (by simp; exact hnbD) (fun q hq k hk hm => ?_)
              have h1 := hC.out.own q hq
              simp at hm
              subst hm
              exact own_deferred_ne h1 hKq hk
            · exact (HUW2.out.trans' hU.out (fun q hq hlt2 => by simp at hq; omega)).trans' hUD (fun q hq hlt2 => by simp at hq; omega)
      case stop =>
        rintro D c pre W _ _ h _
        exact h.elim

end Go.Proofs.YtagjchgpcekmnaaDoor
