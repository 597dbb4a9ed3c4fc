/- Shape: the walk. -/
import Derived.Test.YtneeljhjfmcdoaaDoorShape2
import Derived.Carry
namespace Go.Proofs.YtneeljhjfmcdoaaDoor
open Go.RowKit

/-- References are 64 bits wide. -/
def Hp.Rng (S : Hp) : Prop := ∀ r i, S.refB r i = true → -9223372036854775808 ≤ S.get r i ∧ S.get r i ≤ 9223372036854775807

theorem cells3 {w : World} {L : HL} {cv mv : Value} {S : Hp} (h : HpAt w L cv mv S) (hlow : ∀ i ∈ L.all, i < w.heap.size) : 
    Shp ((((w.alloc (.cells #[.pointer (some ⟨L.hb, 0, none⟩)] 24)).alloc (.map #[] 0)).alloc (.cells #[.map (some (w.heap.size + 1))] 103)).alloc (.cells #[.slice none 0 0] 22)) w.heap.size L cv mv S (.slice none 0 0) [] := by
  have hu : Upd [] w ((((w.alloc (.cells #[.pointer (some ⟨L.hb, 0, none⟩)] 24)).alloc (.map #[] 0)).alloc (.cells #[.map (some (w.heap.size + 1))] 103)).alloc (.cells #[.slice none 0 0] 22)) := ((((Upd.refl _ w).alloc _).alloc _).alloc _).alloc _
  refine ⟨h.upd0 hu, ?_, ?_, ?_, World.ownsRow_nil _ _ _ _, ⟨.map [], ?_, NumD.nil⟩, hlow, by simp, by simp⟩
  · exact ((((Upd.refl [] (w.alloc (.cells #[.pointer (some ⟨L.hb, 0, none⟩)] 24))).alloc (.map #[] 0)).alloc (.cells #[.map (some (w.heap.size + 1))] 103)).alloc (.cells #[.slice none 0 0] 22)).heap (heap_alloc_new w _) (by simp)
  · have h1 := (((Upd.refl [] (((w.alloc (.cells #[.pointer (some ⟨L.hb, 0, none⟩)] 24)).alloc (.map #[] 0)).alloc (.cells #[.map (some (w.heap.size + 1))] 103))).alloc (.cells #[.slice none 0 0] 22))).heap (heap_alloc_new ((w.alloc (.cells #[.pointer (some ⟨L.hb, 0, none⟩)] 24)).alloc (.map #[] 0)) _) (by simp)
    simpa using h1
  · have h1 := heap_alloc_new (((w.alloc (.cells #[.pointer (some ⟨L.hb, 0, none⟩)] 24)).alloc (.map #[] 0)).alloc (.cells #[.map (some (w.heap.size + 1))] 103)) (.cells #[.slice none 0 0] 22)
    simpa using h1
  · have h1 := World.ownsMap_made (H := Nat) (w.alloc (.cells #[.pointer (some ⟨L.hb, 0, none⟩)] 24)) Tryd.prog 3 (plainElem Tryd.prog 3)
    have h2 := (h1.alloc (.cells #[.map (some (w.heap.size + 1))] 103)).alloc (.cells #[.slice none 0 0] 22)
    simpa using h2

theorem Met.top {w0 w w' : World} {B : Nat} {L : HL} {cv mv : Value} {S : Hp} {ov ov' : Value} {od : List Int} (hm : Met B ov ov' w w') (h : Shp w B L cv mv S ov od) (hu : Upd [] w0 w) (hB : w0.heap.size ≤ B) : Upd [] w0 w' :=
  hu.trans' hm.1 (fun i hi hlt => by
    simp only [List.mem_append, List.mem_cons, List.not_mem_nil, or_false, Option.mem_toList] at hi
    rcases hi with (h3 | h3) | h3
    · omega
    · omega
    · have := (h.row.lt i h3).1; omega)

theorem Shp.word {w : World} {B : Nat} {L : HL} {cv mv : Value} {S : Hp} {q : Option Addr} {n oc : Nat} {od : List Int} (h : Shp w B L cv mv S (.slice q n oc) od) (k : Nat) (hk : k < od.length) : ∃ g, q = some ⟨g, 0, none⟩ ∧ w.cell? ⟨g, k, none⟩ = some (.int .i64 (od.getD k 0)) := by
  rcases h.row.2 with ⟨_, h2⟩ | ⟨g, c, _, h1, _⟩
  · omega
  · injection h1 with h1 _ _
    refine ⟨g, h1, ?_⟩
    have h3 := h.row.cells (g := g) (by rw [h1]; rfl) k (.int .i64 (od.getD k 0)) (by
      rw [List.getElem?_map, List.getElem?_eq_getElem hk, List.getD_eq_getElem?_getD, List.getElem?_eq_getElem hk]; rfl)
    rwa [Addr.add_lit, Nat.zero_add] at h3

theorem Tryd.infoObj : (Tryd.prog.info? 106).map (fun i => (i.zero, i.size, i.bytes)) = some (some (.agg #[.int .i64 0, .slice none 0 0]), 2, 32) := by kernel_rfl

set_option maxRecDepth 100000 in
set_option maxHeartbeats 2000000 in
theorem shape_any (L : HL) (cv mv : Value) (S : Hp) (p : Option Addr) (cap rb : Nat) (rs : List Int) (w : World) (h : HpAt w L cv mv S) (hlow : ∀ i ∈ L.all, i < w.heap.size) (hrng : S.Rng) (hn : rs.length ≤ 100000)
    (hp : rs = [] ∨ p = some ⟨rb, 0, none⟩) (hr : ∀ i, i < rs.length → w.cell? ⟨rb, i, none⟩ = some (.int .i64 (rs.getD i 0))) (hrr : ∀ r ∈ rs, -9223372036854775808 ≤ r ∧ r ≤ 9223372036854775807) :
    Calls Tryd.prog 21 #[.pointer (some ⟨L.hb, 0, none⟩), .slice p rs.length cap] w fun e w' => ∃ uv av ps ov od, e = .returned (.tuple #[uv, av]) ∧ OutSt w' w.heap.size L cv mv S ov od av (S.shape rs).2 uv ps ∧ ps.map OP.o = (S.shape rs).1 ∧ Upd [] w w' := by
  have HR := Lib.hid hr
  have HRR := Lib.hid hrr
  have HL' := Lib.hid hlow
  have HG := Lib.hid hrng
  have hmf : ∀ (fn : Fn) (first cap : Array Value) (w : World), (Instr.makeFunc fn first cap).run Tryd.prog w = .ok (.func fn first cap) w := fun _ _ _ _ => rfl
  clear hr hrr hlow hrng
  obtain ⟨i0, hi, hz0, hz1, hz2⟩ := info_parts Tryd.infoInt
  have HI := Lib.hid hi
  have HZ0 := Lib.hid hz0
  have HZ1 := Lib.hid hz1
  have HZ2 := Lib.hid hz2
  clear hi hz0 hz1 hz2
  obtain ⟨i1, hi, hz0, hz1, hz2⟩ := info_parts Tryd.infoLong
  have JI := Lib.hid hi
  have JZ0 := Lib.hid hz0
  have JZ1 := Lib.hid hz1
  have JZ2 := Lib.hid hz2
  clear hi hz0 hz1 hz2
  obtain ⟨i2, hi, hz0, hz1, hz2⟩ := info_parts Tryd.infoObj
  have KI := Lib.hid hi
  have KZ0 := Lib.hid hz0
  have KZ1 := Lib.hid hz1
  have KZ2 := Lib.hid hz2
  clear hi hz0 hz1 hz2
  have hmk := fun w => run_makeMap (P := Tryd.prog) 103 w
  go_enter Tryd.func21, Tryd.ntmps21
  go_wp2_with fail
  go_loopw [9, 26] (fun a i wr => ∃ (k : Nat) (ov : Value), k ≤ rs.length ∧ i = .int .i64 k ∧ Shp wr w.heap.size L cv mv S ov (S.roots (rs.take k)).2 ∧ wr.ownsRow (w.heap.size + 4) 3 1 a k ((S.roots (rs.take k)).1.map (Value.int .i64)) ∧ Apart a ov ∧ Upd [] w wr) (fun _ i _ => rs.length - (intOf i).toNat)
  case atStart =>
    refine ⟨0, .slice none 0 0, by omega, rfl, cells3 h HL'.out, World.ownsRow_nil _ _ _ _, (fun k hk => by simp [Value.ownBlock] at hk : Apart (.slice none 0 0) (.slice none 0 0)), ((((Upd.refl _ w).alloc _).alloc _).alloc _).alloc _⟩
  case round =>
    obtain ⟨k, ov, hk, rfl, hsh, hown, hap, hU⟩ := hrel
    by_cases hlt : k < rs.length
    · have hpp : p = some ⟨rb, 0, none⟩ := by
        rcases hp with h1 | h1
        · rw [h1] at hlt; simp at hlt
        · exact h1
      subst hpp
      have hx := hU.cell (HR.out k hlt) (by simp)
      have HX := Lib.hid (HRR.out (rs.getD k 0) (by rw [List.getD_eq_getElem?_getD, List.getElem?_eq_getElem hlt]; exact List.getElem_mem hlt))
      have HT := Lib.hid (roots_take S rs k hlt)
      generalize rs.getD k 0 = x at hx HX HT
      obtain ⟨wo, rfl⟩ : ∃ wo : World, wo = wr := ⟨_, rfl⟩
      go_wp2_with fail
      refine (meet_any w.heap.size L cv mv S ov _ x wo hsh HX.out).mono ?_
      rintro e w1 ⟨ov1, rfl, hsh1, hmet⟩
      have hown1 := row_upd hown hmet.1 (fun q hq hm => by
        have h1 := (hown.lt q hq).1
        simp only [List.mem_append, List.mem_cons, List.not_mem_nil, or_false, Option.mem_toList] at hm
        rcases hm with (h3 | h3) | h3
        · omega
        · omega
        · exact hap q hq h3)
      have hs1 := hmet.1.size
      have hsB := lt_of_heap hsh1.c3
      go_wp2_with (at_builtin; refine stop_here ?_)
      refine Hid.mk ?_
      refine (wpList_append_own_at _ rfl _ _ 22 rfl (w.heap.size + 4) 3 i0 (.int .i64 0) 1 8 Tryd.underlying22 HI.out HZ0.out HZ1.out HZ2.out rfl (by decide) _ _ _ rfl (hown1.alloc _) ⟨w1.heap.size, 0, none⟩ 1 1 [.int .i64 (S.meetV (S.roots (rs.take k)).2 x)] rfl rfl ?c1 ?c2 ?c3 ?c4 ?c5 ?c6)
      case c1 => exact cell_one_new _ _ _
      case c2 => simp [Value.oneCell']
      case c3 => unfold maxLen; omega
      case c4 => omega
      case c5 => simp; omega
      case c6 =>
        intro v' w6 hown' hgrow _ hat
        have hu6 : Upd u9.ownBlock.toList w1 w6 := ((Upd.refl _ w1).alloc _).grown hgrow (fun q hq => Or.inl (Option.mem_toList.2 hq))
        have hsh6 := hsh1.upd hu6 (fun q hq => by
          have h1 := Option.mem_toList.1 hq
          refine ⟨(hown.lt q h1).1, ?_⟩
          have h2 := (hown.lt q h1).2
          rcases hmet.2 with h3 | ⟨j, h3, h4⟩
          · rw [h3]; exact hap q h1
          · rw [h3]; intro e; injection e with e; omega)
        have hap6 : Apart v' ov1 := by
          intro q hq
          have hov := hsh1.row.lt
          rcases hat with h3 | h3
          · have hq' : u9.ownBlock = some q := h3 ▸ hq
            rcases hmet.2 with h5 | ⟨j, h5, h6⟩
            · rw [h5]; exact hap q hq'
            · rw [h5]; intro e; injection e with e; have := (hown.lt q hq').2; omega
          · rw [h3] at hq
            injection hq with hq
            intro e
            have := (hov q e).2
            simp at hq
            omega
        have hU6 : Upd [] w w6 := (hmet.top hsh hU (Nat.le_refl _)).trans' hu6 (fun i hi hlt => by
          have h1 := (hown.lt i (Option.mem_toList.1 hi)).1
          omega)
        have HO := Lib.hid hown'
        clear hown' hgrow hat
        go_wp2_with fail
        go_roundw
        case rel =>
          refine ⟨k + 1, ov1, by omega, by go_num, ?_, ?_, hap6, hU6⟩
          · rw [HT.out]
            exact hsh6
          · rw [HT.out]
            have := HO.out
            simpa [Hp.rootStep] using this
        case measure => simp [intOf]; omega
    · obtain rfl : k = rs.length := by omega
      rw [List.take_length] at hsh hown
      have HOW := Lib.hid hown
      have HSH := Lib.hid hsh
      clear hown hsh
      obtain ⟨wo, rfl⟩ : ∃ wo : World, wo = wr := ⟨_, rfl⟩
      go_wp2_with fail
      go_loopw [12, 13] (fun u i wr => ∃ (k : Nat) (ov : Value) (od : List Int) (ps : List OP), i = .int .i64 k ∧ OutSt wr w.heap.size L cv mv S ov od u9 (S.roots rs).1 u ps ∧ Upd [] w wr ∧ Hid (S.outN k ([], (S.roots rs).2) = (ps.map OP.o, od) ∧ ps.length = k ∧ k ≤ od.length)) (fun _ i _ => S.A.length + 1 - (intOf i).toNat)
      case atStart =>
        refine ⟨0, ov, (S.roots rs).2, [], rfl, ⟨HSH.out, ?_, World.ownsRow_nil _ _ _ _, by simp, hap, (fun k hk => by simp [Value.ownBlock] at hk : Apart (.slice none 0 0) _), (fun k hk => by simp [Value.ownBlock] at hk : Apart (.slice none 0 0) _)⟩, hU, ⟨rfl, rfl, Nat.zero_le _⟩⟩
        rw [roots_len]
        exact HOW.out
      case round =>
        obtain ⟨k, ov2, od, ps, rfl, hst, hU2, HK⟩ := hrel
        have hfew := hst.sh.few
        have hA := hst.sh.hp.ok.len
        obtain ⟨q, oc, rfl⟩ := hst.sh.form
        have hc0 := cell_of hst.sh.c0 0
        have hc3 := cell_of hst.sh.c3 0
        by_cases hlt : k < od.length
        · obtain ⟨g, rfl, hxk⟩ := hst.sh.word k hlt
          have hobj := hst.sh.obj (od.getD k 0) (by rw [List.getD_eq_getElem?_getD, List.getElem?_eq_getElem hlt]; exact List.getElem_mem hlt)
          have HST : Hid (S.outStep (ps.map OP.o, od) = (ps.map OP.o ++ [(S.cls (od.getD k 0), (S.vals (od.getD k 0) od (S.num (od.getD k 0)).toNat).1)], (S.vals (od.getD k 0) od (S.num (od.getD k 0)).toNat).2)) := by
            have e1 : (ps.map OP.o).length = k := by rw [List.length_map]; exact HK.out.2.1
            show S.outStep _ = _
            unfold Hp.outStep
            simp only [e1]
            rw [if_pos hlt]
          obtain ⟨hr1, hr2, hr3, hr4, hr5, hr6⟩ := hst.sh.hp.ok.le hobj
          generalize od.getD k 0 = r at hxk hobj HST hr1 hr2 hr3 hr4 hr5 hr6
          have HOB := Lib.hid hobj
          clear hobj
          have hhp := hst.sh.hp
          obtain ⟨wo2, rfl⟩ : ∃ wo2 : World, wo2 = wr := ⟨_, rfl⟩
          go_wp2_with fail
          refine (is_yes _ _ _ _ _ _ hhp HOB.out).mono ?_
          rintro e w' ⟨rfl, rfl⟩
          obtain ⟨n, hn1⟩ : ∃ n : Nat, S.num r = (n : Int) := ⟨(S.num r).toNat, by omega⟩
          rw [hn1] at HST ⊢
          rw [Int.toNat_natCast] at HST
          go_wp2_with fail
          have hob := ObSt.begin hst (S.cls r)
          go_loopw [57] (fun i wr => ∃ (j : Nat) (ov : Value) (od1 : List Int) (vv : Value) (xs : List Int), j ≤ n ∧ i = .int .i64 j ∧ ObSt wr w.heap.size L cv mv S ov od1 u9 (S.roots rs).1 u12 ps wo2.heap.size (S.cls r) vv xs ∧ Upd [] w wr ∧ Hid (S.vals r od j = (xs, od1) ∧ xs.length = j)) (fun i _ => n - (intOf i).toNat)
          case atStart => exact ⟨0, _, _, _, _, by omega, rfl, hob, hU2.alloc _, ⟨rfl, rfl⟩⟩
          case round =>
            clear hob
            obtain ⟨j, ov3, od3, vv, xs, hj, rfl, ho, hU3, HV⟩ := hrel
            have hc0 := cell_of ho.st.sh.c0 0
            have hhp := ho.st.sh.hp
            obtain ⟨wo3, rfl⟩ : ∃ wo3 : World, wo3 = wr := ⟨_, rfl⟩
            by_cases hjl : j < n
            · have HVS := Lib.hid (vals_succ S r od j)
              have hget := get_yes L cv mv S r (j : Int) wo3 hhp HOB.out (by omega) (by omega)
              have href := ref_some L cv mv S r (j : Int) wo3 hhp HOB.out (by omega) (by omega)
              cases hrf : S.refB r (j : Int) with
              | true =>
                have HX := Lib.hid (HG.out r j hrf)
                have HRF := Lib.hid hrf
                rw [hrf] at href
                clear hrf
                generalize hx : S.get r (j : Int) = x at hget HX
                have HXE := Lib.hid hx
                clear hx
                go_wp2_with fail
                refine hget.mono ?_
                rintro e w' ⟨rfl, rfl⟩
                go_wp2_with fail
                refine href.mono ?_
                rintro e w' ⟨rfl, rfl⟩
                go_wp2_with fail
                refine (meet_any w.heap.size L cv mv S ov3 od3 x wo3 ho.st.sh HX.out).mono ?_
                rintro e w1 ⟨ov1, rfl, hsh1, hmet⟩
                have ho1 := ho.met hsh1 hmet
                obtain ⟨vq, vc, rfl⟩ := ho1.form
                have hbx := cell_of ho1.box 1
                have hfx := froz_of ho1.box 1
                go_wp2_with (at_builtin; refine stop_here ?_)
                refine Hid.mk ?_
                have hoA := ho1.upd0 ((Upd.refl [] w1).alloc (.cells #[.int .i64 (S.meetV od3 x)] 2))
                have hsB := lt_of_heap ho1.st.sh.c3
                refine (wpList_append_own_at _ rfl _ _ 70 rfl (w.heap.size + 4) 2 i1 (.int .i64 0) 1 8 Tryd.underlying70 JI.out JZ0.out JZ1.out JZ2.out rfl (by decide) _ _ _ rfl hoA.row ⟨w1.heap.size, 0, none⟩ 1 1 [.int .i64 (S.meetV od3 x)] rfl rfl ?c1 ?c2 ?c3 ?c4 ?c5 ?c6)
                case c1 => exact cell_one_new _ _ _
                case c2 => simp [Value.oneCell']
                case c3 => have hxl := HV.out.2; unfold maxLen; omega
                case c4 => have hxl := HV.out.2; omega
                case c5 => simp; omega
                case c6 =>
                  intro v' w6 hown' hgrow _ hat
                  have hno : ∀ q', Value.ownBlock (.slice vq xs.length vc) = some q' → q' ≠ wo2.heap.size := fun q' hq => (ho1.fv q' hq).2
                  have hbox6 : w6.heap[wo2.heap.size]? = some (.cells #[.int .i64 (S.cls r), .slice vq xs.length vc] 106) := ((Upd.refl (Value.ownBlock (.slice vq xs.length vc)).toList _).grown hgrow (fun q' hq => Or.inl (Option.mem_toList.2 hq))).heap hoA.box (fun hm => hno _ (Option.mem_toList.1 hm) rfl)
                  have hb6 := cell_of hbox6 1
                  have hf6 := froz_of hbox6 1
                  obtain ⟨g', c', hv'⟩ : ∃ g' c', v' = .slice (some ⟨g', 0, none⟩) (xs.length + 1) c' := by
                    rcases hown'.2 with ⟨_, hz⟩ | ⟨g', c', _, hv, _⟩
                    · omega
                    · exact ⟨g', c', hv⟩
                  subst hv'
                  have hob6 := hoA.push (S.meetV od3 x) hown' hgrow hat
                  have hU6 : Upd [] w (w6.setCell ⟨wo2.heap.size, 1, none⟩ (.slice (some ⟨g', 0, none⟩) (xs.length + 1) c')) := (((hmet.top ho.st.sh hU3 (Nat.le_refl _)).alloc _).grown hgrow (fun q' hq => Or.inr (by have := (ho1.row.lt q' hq).1; omega))).setCell (Or.inr (Nat.le_trans (Nat.le_add_right _ 4) ho1.fb.1)) _
                  clear hown' hgrow hat
                  have HB6 := Lib.hid hob6
                  clear hob6 hoA
                  go_wp2_with fail
                  go_roundw
                  case rel =>
                    refine ⟨j + 1, ov1, (S.meetO od3 x), _, xs ++ [(S.meetV od3 x)], by omega, by go_num, HB6.out, hU6, ⟨?_, by simp [HV.out.2]⟩⟩
                    rw [HVS.out, Hp.valStep, HV.out.1, HRF.out, HXE.out]
                    rfl
                  case measure => simp [intOf]; omega
              | false =>
                have HRF := Lib.hid hrf
                rw [hrf] at href
                clear hrf
                generalize hx : S.get r (j : Int) = x at hget
                have HXE := Lib.hid hx
                clear hx
                go_wp2_with fail
                refine hget.mono ?_
                rintro e w' ⟨rfl, rfl⟩
                go_wp2_with fail
                refine href.mono ?_
                rintro e w' ⟨rfl, rfl⟩
                obtain ⟨vq, vc, rfl⟩ := ho.form
                have hbx := cell_of ho.box 1
                have hfx := froz_of ho.box 1
                go_wp2_with (at_builtin; refine stop_here ?_)
                refine Hid.mk ?_
                have hoA := ho.upd0 ((Upd.refl [] wo3).alloc (.cells #[.int .i64 x] 2))
                have hsB := lt_of_heap ho.st.sh.c3
                refine (wpList_append_own_at _ rfl _ _ 70 rfl (w.heap.size + 4) 2 i1 (.int .i64 0) 1 8 Tryd.underlying70 JI.out JZ0.out JZ1.out JZ2.out rfl (by decide) _ _ _ rfl hoA.row ⟨wo3.heap.size, 0, none⟩ 1 1 [.int .i64 x] rfl rfl ?c1 ?c2 ?c3 ?c4 ?c5 ?c6)
                case c1 => exact cell_one_new _ _ _
                case c2 => simp [Value.oneCell']
                case c3 => have hxl := HV.out.2; unfold maxLen; omega
                case c4 => have hxl := HV.out.2; omega
                case c5 => simp; omega
                case c6 =>
                  intro v' w6 hown' hgrow _ hat
                  have hno : ∀ q', Value.ownBlock (.slice vq xs.length vc) = some q' → q' ≠ wo2.heap.size := fun q' hq => (ho.fv q' hq).2
                  have hbox6 : w6.heap[wo2.heap.size]? = some (.cells #[.int .i64 (S.cls r), .slice vq xs.length vc] 106) := ((Upd.refl (Value.ownBlock (.slice vq xs.length vc)).toList _).grown hgrow (fun q' hq => Or.inl (Option.mem_toList.2 hq))).heap hoA.box (fun hm => hno _ (Option.mem_toList.1 hm) rfl)
                  have hb6 := cell_of hbox6 1
                  have hf6 := froz_of hbox6 1
                  obtain ⟨g', c', hv'⟩ : ∃ g' c', v' = .slice (some ⟨g', 0, none⟩) (xs.length + 1) c' := by
                    rcases hown'.2 with ⟨_, hz⟩ | ⟨g', c', _, hv, _⟩
                    · omega
                    · exact ⟨g', c', hv⟩
                  subst hv'
                  have hob6 := hoA.push x hown' hgrow hat
                  have hU6 : Upd [] w (w6.setCell ⟨wo2.heap.size, 1, none⟩ (.slice (some ⟨g', 0, none⟩) (xs.length + 1) c')) := (((hU3).alloc _).grown hgrow (fun q' hq => Or.inr (by have := (ho.row.lt q' hq).1; omega))).setCell (Or.inr (Nat.le_trans (Nat.le_add_right _ 4) ho.fb.1)) _
                  clear hown' hgrow hat
                  have HB6 := Lib.hid hob6
                  clear hob6 hoA
                  go_wp2_with fail
                  go_roundw
                  case rel =>
                    refine ⟨j + 1, ov3, od3, _, xs ++ [x], by omega, by go_num, HB6.out, hU6, ⟨?_, by simp [HV.out.2]⟩⟩
                    rw [HVS.out, Hp.valStep, HV.out.1, HRF.out, HXE.out]
                    rfl
                  case measure => simp [intOf]; omega
            · obtain rfl : j = n := by omega
              obtain ⟨vq, vc, rfl⟩ := ho.form
              have hbx := cell_of ho.box 0
              have hbx1 := cell_of ho.box 1
              have HHO := Lib.hid ho
              clear ho
              go_wp2_with (at_builtin; refine stop_here ?_)
              refine Hid.mk ?_
              have hoA := HHO.out.upd0 ((Upd.refl [] wo3).alloc (.cells #[.int .i64 (S.cls r), .slice vq xs.length vc] 106))
              have hsB := lt_of_heap HHO.out.st.sh.c3
              have hcn := cell_of (heap_alloc_new wo3 (.cells #[.int .i64 (S.cls r), .slice vq xs.length vc] 106))
              refine (wpList_append_own_at _ rfl _ _ 54 rfl (w.heap.size + 4) 106 i2 (.agg #[.int .i64 0, .slice none 0 0]) 2 32 Tryd.underlying54 KI.out KZ0.out KZ1.out KZ2.out rfl (by decide) _ _ _ rfl hoA.st.out ⟨wo3.heap.size, 0, none⟩ 1 1 [.int .i64 (S.cls r), .slice vq xs.length vc] rfl rfl ?d1 ?d2 ?d3 ?d4 ?d5 ?d6)
              case d1 =>
                intro jj uu hjj
                rw [Addr.add_lit, Nat.zero_add, hcn]
                simpa using hjj
              case d2 => simp [Value.oneCell']
              case d3 => have hpl := HK.out.2.1; unfold maxLen; omega
              case d4 => have hpl := HK.out.2.1; omega
              case d5 => simp; omega
              case d6 =>
                intro v' w6 hown' hgrow _ hat
                obtain ⟨b, hiv, hbb⟩ := hoA.op
                have hpush := hoA.st.push ⟨S.cls r, xs, .slice vq xs.length vc, b⟩ hiv hbb hown' hgrow hat
                have hU6 : Upd [] w w6 := (hU3.alloc _).grown hgrow (fun q' hq => Or.inr (by have := (HHO.out.st.out.lt q' hq).1; omega))
                clear hown' hgrow hat hiv hbb hoA hcn
                have HPU := Lib.hid hpush
                clear hpush
                go_wp2_with fail
                go_roundw
                case rel =>
                  have hmon := vals_mono S r od j
                  rw [HV.out.1] at hmon
                  have hpl := HK.out.2.1
                  refine ⟨k + 1, ov3, od3, _, by go_num, HPU.out, hU6, ⟨?_, by simp [hpl], by simp only at hmon; omega⟩⟩
                  show S.outStep (S.outN k _) = _
                  rw [HK.out.1, HST.out, HV.out.1]
                  simp [OP.o]
                case measure => simp [intOf]; omega
        · go_wp2_with fail
          go_ret2
          refine ⟨_, _, ps, _, od, rfl, hst, ?_, hU2⟩
          obtain ⟨h1, h2, h3⟩ := HK.out
          have h4 : S.outN (S.A.length + 1) ([], (S.roots rs).2) = S.outN k ([], (S.roots rs).2) := outN_stay S _ k _ (by rw [h1]; simp; omega) (by omega)
          show _ = (S.outN (S.A.length + 1) ([], (S.roots rs).2)).1
          rw [h4, h1]

end Go.Proofs.YtneeljhjfmcdoaaDoor
