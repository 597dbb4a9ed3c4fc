/- GcPlays: a new object beside. -/
import Derived.Test.YtneeljhjfmcdoaaDoorPlF
import Derived.Test.YtneeljhjfmcdoaaDoorFresh
import Derived.WalkSmall
namespace Go.Proofs.YtneeljhjfmcdoaaDoor
open Go.RowKit

section
variable {w0 w : World} {xb : Nat} {L : HL} {hv hmv cv mv : Value} {cb co : Nat} {S : Hp} {rv ov nv : Value} {rs ts : List Int} {ps : List OP}
set_option maxRecDepth 100000 in
set_option maxHeartbeats 8000000 in
theorem object_any (h : PlAt w0 w xb L hv hmv cv mv cb co S rv ov nv rs ts ps) (c n : Int) (hc1 : -2 ≤ c) (hc2 : c < S.cs.length) (hn : 0 ≤ n ∧ n ≤ 15) (hpl : ps.length ≤ 100) (htl : ts.length ≤ 1000) :
    Calls Tryd.prog 62 #[.pointer (some ⟨xb, 0, none⟩), .int .i64 c, .int .i64 n] w fun e w' => e = .returned (.tuple #[]) ∧ ∃ ov' nv' q, PlAt w0 w' xb L hv hmv cv mv cb co S rv ov' nv' rs (ts ++ [(ps.length : Int)]) (ps ++ [q]) ∧ q.c = c ∧ q.xs = fresh S.cs c (wantN S.cs c n).toNat := by
  obtain ⟨i1, hi, hz0, hz1, hz2⟩ := info_parts Tryd.infoLong
  have JI := Lib.hid hi
  have JZ0 := Lib.hid hz0
  have JZ1 := Lib.hid hz1
  have JZ2 := Lib.hid hz2
  clear hi hz0 hz1 hz2
  obtain ⟨i2, hi, hz0, hz1, hz2⟩ := info_parts Tryd.infoObj
  have KI := Lib.hid hi
  have KZ0 := Lib.hid hz0
  have KZ1 := Lib.hid hz1
  have KZ2 := Lib.hid hz2
  clear hi hz0 hz1 hz2
  obtain ⟨cp, cc, rfl⟩ := h.cls.shape
  obtain ⟨po, pc, rfl⟩ := h.ob.form
  have hS := h.gc.hp.ok
  have hbd := want_bd hS (c := c) (n := n) hc2 hn.1
  have HWC := Lib.hid (words3_any (.slice cp S.cs.length cc) mv cb co c n S.cs w h.cls hc2 (by have := hS.few; omega) hS.small hn.1 (by omega))
  obtain ⟨m, hm⟩ : ∃ m : Nat, wantN S.cs c n = (m : Int) := ⟨(wantN S.cs c n).toNat, by omega⟩
  rw [hm] at HWC
  have hm15 : m ≤ 15 := by omega
  have HWM := Lib.hid hm
  have hmt : (wantN S.cs c n).toNat = m := by omega
  rw [hmt]
  obtain ⟨x0, x1, x2, x3, x4, x5⟩ := h.cells
  have HH := Lib.hid h
  have hxw := h.lt
  clear hS hbd hm hmt h x2 x3 x4 x5
  have esub : (2 : Int) + (m : Int) - 2 = (m : Int) := by omega
  go_enter Tryd.func62, Tryd.ntmps62
  go_wp2_with fail
  refine HWC.out.mono ?_
  rintro e w6 ⟨rfl, hu6⟩
  have HU6 := Lib.hid hu6
  have hxw6 : xb < w6.heap.size := Nat.lt_of_lt_of_le hxw hu6.size
  clear HWC hu6 x0 x1
  go_wp2_with fail
  rw [make_longs w6 m (by omega)]
  go_wp2_with fail
  go_loopw [7] (fun jv wr => ∃ j : Nat, j ≤ m ∧ jv = .int .i64 j ∧ wr.heap[w6.heap.size]? = some (.cells (icells (freshJ S.cs c m j)) 2) ∧ wr.heap[w6.heap.size + 1]? = some (.cells #[.int .i64 c, .slice (some ⟨w6.heap.size, 0, none⟩) m m] 106) ∧ Upd [] w6 wr) (fun jv _ => m - (intOf jv).toNat)
  case atStart =>
    refine ⟨0, by omega, rfl, ?_, ?_, ((Upd.refl [] w6).alloc _).alloc _⟩
    · rw [freshJ_zero]
      exact ((Upd.refl [] (w6.alloc _)).alloc _).heap (heap_alloc_new w6 _) (by simp)
    · have := heap_alloc_new (w6.alloc (.cells (icells (List.replicate m 0)) 2)) (.cells #[.int .i64 c, .slice (some ⟨w6.heap.size, 0, none⟩) m m] 106)
      simpa using this
  case round =>
    obtain ⟨j, hj, rfl, hvb, hob, hu7⟩ := hrel
    obtain ⟨wj, rfl⟩ : ∃ wj : World, wj = wr := ⟨_, rfl⟩
    have ho0 := cell_of hob 0
    have ho1 := cell_of hob 1
    have hU7 := HU6.out.trans hu7
    have x0 := (HH.out.upd hU7).cells.1
    by_cases hjm : j < m
    · have dj : decide ((j : Int) < (m : Int)) = true := by simp; omega
      as_aux_lemma =>
        by_cases hcm : c = -2
        · have hR : letR S.cs c j = true := by subst hcm; rfl
          have hfj := froz_of hvb j
          have hset := freshJ_yes S.cs c m j hjm hR
          have hlj := freshJ_len S.cs c m j hj
          have hcj := cell_of hvb j
          rw [icells_get _ _ (by omega)] at hcj
          have HSE := Lib.hid hset
          have HLJ := Lib.hid hlj
          clear hset hlj
          have dc : (c == -2) = true := by simpa using hcm
          go_wp2_with fail
          go_roundw
          case rel =>
            refine ⟨j + 1, by omega, by go_num, ?_, ?_, hu7.setCell (Or.inr (Nat.le_refl _)) _⟩
            · rw [heap_setCell hvb, icells_set, HSE.out]
            · exact ((Upd.refl [w6.heap.size] wj).setCell (Or.inl (by simp)) _).heap hob (by simp)
          case measure => simp [intOf]; omega
        · have dc : (c == -2) = false := by simpa using hcm
          by_cases h0 : 0 ≤ c
          · obtain ⟨k, rfl⟩ := Int.eq_ofNat_of_zero_le h0
            have hkl : k < S.cs.length := by omega
            have hck := HH.out.cls.upd hU7 (by simp)
            obtain rfl : cp = some ⟨cb, co, none⟩ := by
              rcases hck.1 with ⟨_, h2⟩ | ⟨x, cap, hv, h2⟩
              · rw [h2] at hkl; simp at hkl
              · injection hv with hv _ _
                rcases h2 with h2 | h2
                · rw [h2] at hkl; simp at hkl
                · rw [hv, h2]
            have hx := hck.2 k hkl
            have hwn := HWM.out
            unfold wantN at hwn
            rw [if_pos h0, Int.toNat_natCast] at hwn
            have hjs : j < (S.cs.getD k ByteArray.empty).size := by omega
            have hl : letR S.cs (k : Int) (j : Int) = decide ((S.cs.getD k ByteArray.empty).get! j = 82) := by
              unfold letR
              rw [decide_eq_false (by omega : ¬ (k : Int) = -2), decide_eq_true (by omega : 0 ≤ (k : Int)), Int.toNat_natCast, Int.toNat_natCast]; simp
            have hby := byte_eq _ j 82 hjs
            rw [← hl] at hby
            have HNO := Lib.hid (fun h => freshJ_no S.cs (k : Int) m j hjm h)
            have HYES := Lib.hid (fun h => freshJ_yes S.cs (k : Int) m j hjm h)
            have HLJ := Lib.hid (freshJ_len S.cs (k : Int) m j hj)
            clear hck hwn hl
            generalize hgs : S.cs.getD k ByteArray.empty = s at hx hjs hby
            have HGS := Lib.hid hgs
            clear hgs
            have hfj := froz_of hvb j
            have hcj := cell_of hvb j
            rw [icells_get _ _ (by rw [HLJ.out]; exact hjm)] at hcj
            have dk0 : decide ((0 : Int) ≤ (k : Int)) = true := by simp
            cases hbb : letR S.cs (k : Int) (j : Int) with
            | true =>
              rw [hbb] at hby
              have hby2 : (((s[j]'hjs).toNat : Int) == 82) = true := hby
              have HSE := Lib.hid (HYES.out hbb)
              clear hbb hby
              go_wp2_with fail
              go_roundw
              case rel =>
                refine ⟨j + 1, by omega, by go_num, ?_, ?_, hu7.setCell (Or.inr (Nat.le_refl _)) _⟩
                · rw [heap_setCell hvb, icells_set, HSE.out]
                · exact ((Upd.refl [w6.heap.size] wj).setCell (Or.inl (by simp)) _).heap hob (by simp)
              case measure => simp [intOf]; omega
            | false =>
              rw [hbb] at hby
              have hby2 : (((s[j]'hjs).toNat : Int) == 82) = false := hby
              have HSE := Lib.hid (HNO.out hbb)
              clear hbb hby
              go_wp2_with fail
              go_roundw
              case rel =>
                refine ⟨j + 1, by omega, by go_num, ?_, hob, hu7⟩
                rw [HSE.out]; exact hvb
              case measure => simp [intOf]; omega
          · have dk0 : decide ((0 : Int) ≤ c) = false := by simp; omega
            have HSE := Lib.hid (freshJ_no S.cs c m j hjm (by
              unfold letR
              rw [decide_eq_false hcm, decide_eq_false h0]; rfl))
            go_wp2_with fail
            go_roundw
            case rel =>
              refine ⟨j + 1, by omega, by go_num, ?_, hob, hu7⟩
              rw [HSE.out]; exact hvb
            case measure => simp [intOf]; omega
    · obtain rfl : j = m := by omega
      as_aux_lemma =>
        rw [freshJ_all] at hvb
        have dj : decide ((j : Int) < (j : Int)) = false := by simp
        have hp := HH.out.upd hU7
        have hup := (Upd.refl [] wj).alloc (.cells #[.int .i64 c, .slice (some ⟨w6.heap.size, 0, none⟩) j j] 106)
        have hpa := (hp.upd hup).upd (Upd.refl [] _).drew
        obtain ⟨n1, n2, n3, n4⟩ := HH.out.new
        have h6 := HU6.out.size
        have hvb2 := (hup.trans (Upd.refl [] _).drew).heap hvb (by simp)
        have HPUSH : Hid (∀ v' w7, w7.ownsRow (xb + 1) 106 2 v' (ps.length + 1) (oflat ps ++ [Value.int .i64 c, .slice (some ⟨w6.heap.size, 0, none⟩) j j]) → ((wj.alloc (.cells #[.int .i64 c, .slice (some ⟨w6.heap.size, 0, none⟩) j j] 106)).drew).grownBy w7 (Value.slice po ps.length pc).ownBlock → (v'.ownBlock = (Value.slice po ps.length pc).ownBlock ∨ v'.ownBlock = some ((wj.alloc (.cells #[.int .i64 c, .slice (some ⟨w6.heap.size, 0, none⟩) j j] 106)).drew).heap.size) →
            (∃ g c, v' = .slice (some ⟨g, 0, none⟩) (ps.length + 1) c) ∧ w7.cell? ⟨xb, 4, none⟩ = some (.slice po ps.length pc) ∧ w7.frozen? ⟨xb, 4, none⟩ = false ∧ PlAt w0 (w7.setCell ⟨xb, 4, none⟩ v') xb L hv hmv (.slice cp S.cs.length cc) mv cb co S rv v' nv rs ts (ps ++ [⟨c, fresh S.cs c j, .slice (some ⟨w6.heap.size, 0, none⟩) j j, w6.heap.size⟩])) := fun v' w7 hrow hgr hat =>
          hpa.pushO ⟨c, fresh S.cs c j, .slice (some ⟨w6.heap.size, 0, none⟩) j j, w6.heap.size⟩ (by rw [fresh_len]) hvb2 (by show xb + 1 ≤ w6.heap.size; omega) (fun e => by have := n3 w6.heap.size e; omega) (fun p hp e => by have := n4 p hp; have e : p.b = w6.heap.size := e; omega) (fun e => by have := n2 w6.heap.size e; omega) (fun i hi e => by have := HH.out.gc.hi i hi; have e : w6.heap.size = i := e; omega) hrow hgr hat
        have HP := Lib.hid hp
        obtain ⟨-, -, -, -, x4, -⟩ := hp.cells
        have hxj := hp.lt
        clear hp hup hpa n1 n2 n3 n4 h6 hvb2 hvb hu7 hU7 x0
        go_upto_region 6 with fail
        go_cut [] (fun wx => ∃ (g c' : Nat), Hid (PlAt w0 wx xb L hv hmv (.slice cp S.cs.length cc) mv cb co S rv (.slice (some ⟨g, 0, none⟩) (ps.length + 1) c') nv rs ts (ps ++ [⟨c, fresh S.cs c j, .slice (some ⟨w6.heap.size, 0, none⟩) j j, w6.heap.size⟩])))
        case first =>
          go_region_law (refine step_append_own_at rfl (.tmp 54) (.tmp 56) 54 rfl (xb + 1) 106 i2 (.agg #[.int .i64 0, .slice none 0 0]) 2 32 Tryd.underlying54 KI.out KZ0.out KZ1.out KZ2.out rfl (by decide) (.slice po ps.length pc) ps.length (oflat ps) rfl (HP.out.ob.out.drew.alloc _) ⟨wj.heap.size, 0, none⟩ 1 1 [.int .i64 c, .slice (some ⟨w6.heap.size, 0, none⟩) j j] rfl rfl (cell_two_new _ _ _ _) (by simp [Value.oneCell']) (by unfold maxLen; omega) (by omega) (by simp; omega) ?_; intro v' w7 hown' hgrow hat; obtain ⟨⟨g, c', rfl⟩, hc7, hf7, hP7⟩ := HPUSH.out v' w7 hown' hgrow hat; clear hown' hgrow hat)
          all_goals
            have HP7 := Lib.hid hP7
            clear hP7 hc7 hf7 HPUSH HP x4
            go_wp2_with fail
            go_meet
            exact ⟨g, c', HP7.out⟩
        case rest =>
          obtain ⟨g, c', HP7⟩ := hcut
          obtain ⟨wk, rfl⟩ : ∃ w' : World, w' = wc := ⟨_, rfl⟩
          clear HPUSH HP x4 hxj ho0 ho1
          obtain ⟨-, -, -, -, x4, x5⟩ := HP7.out.cells
          have hxk := HP7.out.lt
          obtain ⟨pn, pc5, hnv⟩ := ownI_shape HP7.out.nm
          subst hnv
          obtain ⟨l1, hl1⟩ : ∃ l1 : Nat, l1 = ps.length + 1 := ⟨_, rfl⟩
          rw [← hl1] at x4
          have hwr : IntKind.i64.wrap ((l1 : Int) - 1) = (l1 : Int) - 1 := IntWalk.i64_in _ (by omega)
          have hup := (Upd.refl [] wk).alloc (.cells #[.int .i64 ((l1 : Int) - 1)] 2)
          have hpa := (HP7.out.upd hup).upd (Upd.refl [] _).drew
          have HPUSH : Hid (∀ v' w7, w7.ownsRow (xb + 1) 2 1 v' (ts.length + 1) (ts.map (Value.int .i64) ++ [.int .i64 ((l1 : Int) - 1)]) → ((wk.alloc (.cells #[.int .i64 ((l1 : Int) - 1)] 2)).drew).grownBy w7 (Value.slice pn ts.length pc5).ownBlock → (v'.ownBlock = (Value.slice pn ts.length pc5).ownBlock ∨ v'.ownBlock = some ((wk.alloc (.cells #[.int .i64 ((l1 : Int) - 1)] 2)).drew).heap.size) →
              (∃ g2 c2, v' = .slice (some ⟨g2, 0, none⟩) (ts.length + 1) c2) ∧ w7.cell? ⟨xb, 5, none⟩ = some (.slice pn ts.length pc5) ∧ w7.frozen? ⟨xb, 5, none⟩ = false ∧ w7.cell? ⟨xb, 4, none⟩ = some (.slice (some ⟨g, 0, none⟩) l1 c') ∧ PlAt w0 (w7.setCell ⟨xb, 5, none⟩ v') xb L hv hmv (.slice cp S.cs.length cc) mv cb co S rv (.slice (some ⟨g, 0, none⟩) (ps.length + 1) c') v' rs (ts ++ [(ps.length : Int)]) (ps ++ [⟨c, fresh S.cs c j, .slice (some ⟨w6.heap.size, 0, none⟩) j j, w6.heap.size⟩])) := fun v' w7 hrow hgr hat => by
            have h9 := hpa.pushN ((l1 : Int) - 1) hrow hgr hat
            rw [show (l1 : Int) - 1 = (ps.length : Int) by omega] at h9
            rw [hl1]
            exact h9
          have HNM := Lib.hid HP7.out.nm
          have HL1 := Lib.hid hl1
          clear HP7 hup hpa hl1
          have x4d := ((Upd.refl [] wk).drew).cell x4 (by simp)
          have x5d := ((Upd.refl [] wk).drew).cell x5 (by simp)
          have x4a := fun o => (((Upd.refl [] wk).drew).alloc o).cell x4 (by simp)
          have x5a := fun o => (((Upd.refl [] wk).drew).alloc o).cell x5 (by simp)
          go_upto_region 7 with fail
          refine wp_region_noPanic ?_
          refine wp_region_held_drew (S := fun w' => w'.cell? ⟨xb, 4, none⟩ = some (.slice (some ⟨g, 0, none⟩) l1 c')) (by kernel_rfl) ?_ (fun hHeld => ?_)
          · first | exact x4d | exact x4 | exact k0 | exact x4a _ | fail
          refine wpAnyH_take (i := 0) (oi := ?_) (v := ?_) ?_ (by kernel_rfl) (by kernel_rfl) (by kernel_rfl) (fun _ _ _ h => h) (Or.inl ⟨?_, ?_⟩) hHeld ?_
          rotate_left 2
          · simp only [List.getElem?_toArray, List.getElem?_cons_zero]; rfl
          · rfl
          · intro _ hSw; (try dsimp only at hSw); go_simp <;> with_reducible rfl
          (try simp only [Act.put, List.setIfInBounds_toArray, List.set_cons_zero, List.set_cons_succ])
          refine wpAnyH_take (i := 1) (oi := ?_) (v := ?_) ?_ (by kernel_rfl) (by kernel_rfl) (by kernel_rfl) (fun _ _ _ h => h) (Or.inl ⟨?_, ?_⟩) hHeld ?_
          rotate_left 2
          · simp only [List.getElem?_toArray, List.getElem?_cons_zero, List.getElem?_cons_succ]; rfl
          · rfl
          · intro _ hSw; (try dsimp only at hSw); go_simp <;> with_reducible rfl
          (try simp only [Act.put, List.setIfInBounds_toArray, List.set_cons_zero, List.set_cons_succ])
          refine wpAnyH_take (i := 2) (oi := ?_) (v := ?_) ?_ (by kernel_rfl) (by kernel_rfl) (by kernel_rfl) (fun _ _ _ h => h) (Or.inl ⟨?_, ?_⟩) hHeld ?_
          rotate_left 2
          · simp only [List.getElem?_toArray, List.getElem?_cons_zero, List.getElem?_cons_succ]; rfl
          · rfl
          · intro _ hSw; (try dsimp only at hSw); go_simp <;> with_reducible rfl
          (try simp only [Act.put, List.setIfInBounds_toArray, List.set_cons_zero, List.set_cons_succ])
          refine wpAnyH_take (i := 3) (oi := ?_) (v := ?_) ?_ (by kernel_rfl) (by kernel_rfl) (by kernel_rfl) (fun _ _ _ h => h) (Or.inl ⟨?_, ?_⟩) hHeld ?_
          rotate_left 2
          · simp only [List.getElem?_toArray, List.getElem?_cons_zero, List.getElem?_cons_succ]; rfl
          · rfl
          · intro _ hSw; (try dsimp only at hSw); go_simp <;> with_reducible rfl
          (try simp only [Act.put, List.setIfInBounds_toArray, List.set_cons_zero, List.set_cons_succ])
          refine wpAnyH_take (i := 5) (oi := ?_) (v := ?_) ?_ (by kernel_rfl) (by kernel_rfl) (by kernel_rfl) (fun _ _ _ h => h) (Or.inl ⟨?_, ?_⟩) hHeld ?_
          rotate_left 2
          · simp only [List.getElem?_toArray, List.getElem?_cons_zero, List.getElem?_cons_succ]; rfl
          · rfl
          · intro _ hSw; (try dsimp only at hSw); go_simp <;> with_reducible rfl
          (try simp only [Act.put, List.setIfInBounds_toArray, List.set_cons_zero, List.set_cons_succ])
          refine wpAnyH_take (i := 6) (oi := ?_) (v := ?_) ?_ (by kernel_rfl) (by kernel_rfl) (by kernel_rfl) (fun _ _ _ h => h) (Or.inl ⟨?_, ?_⟩) hHeld ?_
          rotate_left 2
          · simp only [List.getElem?_toArray, List.getElem?_cons_zero, List.getElem?_cons_succ]; rfl
          · rfl
          · intro _ hSw; (try dsimp only at hSw); go_simp <;> with_reducible rfl
          (try simp only [Act.put, List.setIfInBounds_toArray, List.set_cons_zero, List.set_cons_succ])
          refine wpAnyH_take (i := 7) (oi := ?_) (v := ?_) ?_ (by kernel_rfl) (by kernel_rfl) (by kernel_rfl) (fun _ _ _ h => h) (Or.inl ⟨?_, ?_⟩) hHeld ?_
          rotate_left 2
          · simp only [List.getElem?_toArray, List.getElem?_cons_zero, List.getElem?_cons_succ]; rfl
          · rfl
          · intro _ hSw; (try dsimp only at hSw); go_simp <;> with_reducible rfl
          (try simp only [Act.put, List.setIfInBounds_toArray, List.set_cons_zero, List.set_cons_succ])
          refine wpAnyH_take (i := 8) (oi := ?_) (v := ?_) ?_ (by kernel_rfl) (by kernel_rfl) (by kernel_rfl) (fun _ _ _ h => h) (Or.inl ⟨?_, ?_⟩) hHeld ?_
          rotate_left 2
          · simp only [List.getElem?_toArray, List.getElem?_cons_zero, List.getElem?_cons_succ]; rfl
          · rfl
          · intro _ hSw; (try dsimp only at hSw); go_simp <;> with_reducible rfl
          (try simp only [Act.put, List.setIfInBounds_toArray, List.set_cons_zero, List.set_cons_succ])
          refine wpAnyH_take (i := 9) (oi := ?_) (v := ?_) ?_ (by kernel_rfl) (by kernel_rfl) (by kernel_rfl) (fun _ _ _ h => h) (Or.inl ⟨?_, ?_⟩) hHeld ?_
          rotate_left 2
          · simp only [List.getElem?_toArray, List.getElem?_cons_zero, List.getElem?_cons_succ]; rfl
          · rfl
          · intro _ hSw; (try dsimp only at hSw); go_simp <;> with_reducible rfl
          (try simp only [Act.put, List.setIfInBounds_toArray, List.set_cons_zero, List.set_cons_succ])
          refine wpAnyH_take (i := 10) (oi := ?_) (v := ?_) ?_ (by kernel_rfl) (by kernel_rfl) (by kernel_rfl) (fun _ _ _ h => h) (Or.inl ⟨?_, ?_⟩) hHeld ?_
          rotate_left 2
          · simp only [List.getElem?_toArray, List.getElem?_cons_zero, List.getElem?_cons_succ]; rfl
          · rfl
          · intro _ hSw; (try dsimp only at hSw); go_simp <;> with_reducible rfl
          (try simp only [Act.put, List.setIfInBounds_toArray, List.set_cons_zero, List.set_cons_succ])
          refine wpAnyH_ready (rs := [4, 11]) (by kernel_rfl) (by simp) ?_
          refine (AllReadyH.cons (o := ?o4) ?ho4 (fun K hK => ?w4) (AllReadyH.cons (o := ?o11) ?ho11 (fun K hK => ?w11) AllReadyH.nil))
          case ho4 => (simp only [List.getElem?_toArray, List.getElem?_cons_zero, List.getElem?_cons_succ]; rfl)
          case ho11 => (simp only [List.getElem?_toArray, List.getElem?_cons_zero, List.getElem?_cons_succ]; rfl)
          case' w4 =>
            clear hHeld
            go_simp
            refine hK.out _ _ ?_ (fun hHeld => ?_)
            · first | exact x4d | exact x4 | exact k0 | exact x4a _ | fail
            clear hK K
            (try simp only [Act.put, List.setIfInBounds_toArray, List.set_cons_zero, List.set_cons_succ])
            refine wpAnyH_ready (rs := [11]) (by kernel_rfl) (by simp) ?_
            refine AllReadyH.cons (o := ?_) ?_ (fun K hK => ?_) AllReadyH.nil
            rotate_left 1
            · simp only [List.getElem?_toArray, List.getElem?_cons_zero, List.getElem?_cons_succ]; rfl
            clear hHeld
            go_simp
            refine hK.out _ _ ?_ (fun hHeld => ?_)
            · first | exact x4d | exact x4 | exact k0 | exact x4a _ | fail
            clear hK K
            (try simp only [Act.put, List.setIfInBounds_toArray, List.set_cons_zero, List.set_cons_succ])
          case' w11 =>
            clear hHeld
            go_simp
            refine hK.out _ _ ?_ (fun hHeld => ?_)
            · first | exact x4d | exact x4 | exact k0 | exact x4a _ | fail
            clear hK K
            (try simp only [Act.put, List.setIfInBounds_toArray, List.set_cons_zero, List.set_cons_succ])
            refine wpAnyH_ready (rs := [4]) (by kernel_rfl) (by simp) ?_
            refine AllReadyH.cons (o := ?_) ?_ (fun K hK => ?_) AllReadyH.nil
            rotate_left 1
            · simp only [List.getElem?_toArray, List.getElem?_cons_zero, List.getElem?_cons_succ]; rfl
            clear hHeld
            go_simp
            refine hK.out _ _ ?_ (fun hHeld => ?_)
            · first | exact x4d | exact x4 | exact k0 | exact x4a _ | fail
            clear hK K
            (try simp only [Act.put, List.setIfInBounds_toArray, List.set_cons_zero, List.set_cons_succ])
          all_goals
            refine wpAnyH_ready (rs := [12]) (by kernel_rfl) (by simp) ?_
            refine AllReadyH.cons (o := ?_) ?_ (fun K hK => ?_) AllReadyH.nil
            rotate_left 1
            · simp only [List.getElem?_toArray, List.getElem?_cons_zero, List.getElem?_cons_succ]; rfl
            clear hHeld
            (refine step_append_own_at rfl (.tmp 64) (.tmp 71) 70 rfl (xb + 1) 2 i1 (.int .i64 0) 1 8 Tryd.underlying70 JI.out JZ0.out JZ1.out JZ2.out rfl (by decide) (.slice pn ts.length pc5) ts.length (ts.map (Value.int .i64)) rfl (HNM.out.drew.alloc _) ⟨wk.heap.size, 0, none⟩ 1 1 [.int .i64 ((l1 : Int) - 1)] rfl rfl (cell_one_new _ _ _) (by simp [Value.oneCell']) (by unfold maxLen; omega) (by omega) (by simp; omega) ?_; intro v' w7 hown' hgrow hat; obtain ⟨⟨g', c'', rfl⟩, hc7, hf7, k0, hP7⟩ := HPUSH.out v' w7 hown' hgrow hat; have HP8 := Lib.hid hP7; have s0 := HP8.out.cells.2.2.2.2.1; rw [← HL1.out] at s0; clear hown' hgrow hat)
            refine hK.out _ _ ?_ (fun hHeld => ?_)
            · first | exact x4d | exact x4 | exact k0 | exact x4a _ | exact s0
            clear hK K
            (try simp only [Act.put, List.setIfInBounds_toArray, List.set_cons_zero, List.set_cons_succ])
            refine wpAnyH_take (i := 13) (oi := ?_) (v := ?_) ?_ (by kernel_rfl) (by kernel_rfl) (by kernel_rfl) (fun _ _ _ h => h) (Or.inl ⟨?_, ?_⟩) hHeld ?_
            rotate_left 2
            · simp only [List.getElem?_toArray, List.getElem?_cons_zero, List.getElem?_cons_succ]; rfl
            · rfl
            · intro _ hSw; (try dsimp only at hSw); go_simp <;> with_reducible rfl
            (try simp only [Act.put, List.setIfInBounds_toArray, List.set_cons_zero, List.set_cons_succ])
            refine wpAnyH_take (i := 14) (oi := ?_) (v := ?_) ?_ (by kernel_rfl) (by kernel_rfl) (by kernel_rfl) (fun _ _ _ h => h) (Or.inl ⟨?_, ?_⟩) hHeld ?_
            rotate_left 2
            · simp only [List.getElem?_toArray, List.getElem?_cons_zero, List.getElem?_cons_succ]; rfl
            · rfl
            · intro _ hSw; (try dsimp only at hSw); go_simp <;> with_reducible rfl
            (try simp only [Act.put, List.setIfInBounds_toArray, List.set_cons_zero, List.set_cons_succ])
            refine wpAnyH_ready (rs := [15]) (by kernel_rfl) (by simp) ?_
            refine AllReadyH.cons (o := ?_) ?_ (fun K hK => ?_) AllReadyH.nil
            rotate_left 1
            · simp only [List.getElem?_toArray, List.getElem?_cons_zero, List.getElem?_cons_succ]; rfl
            clear hHeld
            go_simp
            refine hK.out _ _ ?_ (fun hHeld => ?_)
            · first | exact x4d | exact x4 | exact k0 | exact x4a _ | exact s0
            clear hK K
            (try simp only [Act.put, List.setIfInBounds_toArray, List.set_cons_zero, List.set_cons_succ])
            refine wpAnyH_done (by kernel_rfl) ?_ _
            refine NoPanic.normal ?_
            clear hP7 hc7 hf7 HPUSH k0 s0
            go_wp2_with fail
            go_end0
            exact ⟨rfl, _, _, _, HP8.out, rfl, rfl⟩
end
end Go.Proofs.YtneeljhjfmcdoaaDoor
