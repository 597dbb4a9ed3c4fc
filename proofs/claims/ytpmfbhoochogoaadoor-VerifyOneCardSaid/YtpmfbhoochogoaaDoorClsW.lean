/- overdriveref.Classes: a copy of classes. -/
import Derived.Test.YtpmfbhoochogoaaDoorWithW
/-! overdriveref.Classes: a copy of classes. -/
namespace Go.Proofs.YtpmfbhoochogoaaDoor
open Go.RowKit

/-- Classes of one's own. -/
def OwnK (w : World) (B : Nat) (v : Value) (cs : List ByteArray) : Prop := w.ownsRow B 71 1 v cs.length (cs.map Value.string)
theorem OwnK.upd {w w' : World} {B : Nat} {v : Value} {cs : List ByteArray} (h : OwnK w B v cs) (hu : Upd [] w w') : OwnK w' B v cs := row_upd h hu (by simp)
theorem OwnK.shape {w : World} {B : Nat} {v : Value} {cs : List ByteArray} (h : OwnK w B v cs) : ∃ p c, v = .slice p cs.length c := by
  rcases h.2 with ⟨h1, h2⟩ | ⟨g, c, cur, h1, _⟩
  · exact ⟨none, 0, by rw [h1, h2]⟩
  · exact ⟨_, c, h1⟩
theorem OwnK.lt {w : World} {B : Nat} {v : Value} {cs : List ByteArray} (h : OwnK w B v cs) (k : Nat) (hk : v.ownBlock = some k) : B ≤ k ∧ k < w.heap.size := by
  rcases h.2 with ⟨h1, h2⟩ | ⟨g, c, cur, h1, h3, h4, _⟩
  · rw [h1] at hk; simp [Value.ownBlock] at hk
  · rw [h1] at hk
    simp only [Value.ownBlock, Option.some.injEq] at hk
    subst hk
    exact ⟨h3, lt_of_heap h4⟩
theorem OwnK.cls {w : World} {B : Nat} {v : Value} {cs : List ByteArray} (h : OwnK w B v cs) (hs : ∀ c ∈ cs, c.size ≤ maxLen) : ClassAt w v cs := by
  rcases h.2 with ⟨hv, hn⟩ | ⟨g, cap, cur, hv, hb, hg, hc1, hc2, rest⟩
  · have : cs = [] := List.eq_nil_of_length_eq_zero hn
    subst this
    exact ⟨none, 0, hv, fun _ => rfl, by simp, by simp [maxLen], by simp⟩
  · refine ⟨some ⟨g, 0, none⟩, cap, hv, by simp, hc1, hc2, fun i hi => ⟨g, 0, rfl, ?_, ?_⟩⟩
    · rw [List.getD_eq_getElem?_getD, List.getElem?_eq_getElem hi]; exact hs _ (List.getElem_mem hi)
    · have h1 := World.ownsRow.cells h (g := g) (by rw [hv]; rfl) i (.string (cs.getD i ByteArray.empty)) (by
        rw [List.getElem?_map, List.getElem?_eq_getElem hi, List.getD_eq_getElem?_getD, List.getElem?_eq_getElem hi]; rfl)
      rwa [Addr.add_lit] at h1
theorem OwnK.push {w w' : World} {B n : Nat} {v v' : Value} {cs : List ByteArray} {c : ByteArray} {o : Obj} (h : OwnK w B v cs) (hn : cs.length + 1 = n) (hown : w'.ownsRow B 71 1 v' n (cs.map Value.string ++ [.string c])) (hgr : (w.alloc o).grownBy w' v.ownBlock) :
    OwnK w' B v' (cs ++ [c]) ∧ Upd v.ownBlock.toList w w' ∧ (∀ k ∈ v.ownBlock.toList, B ≤ k ∧ k < w.heap.size) := by
  subst hn
  refine ⟨by unfold OwnK; simpa using hown, ((Upd.refl _ w).alloc o).grown hgr (fun q hq => Or.inl (Option.mem_toList.2 hq)), fun k hk => h.lt k (Option.mem_toList.1 hk)⟩

theorem make_cls (w : World) (m : Nat) (h : m ≤ 1000000) : ∃ Z : Array Value, Z.size = m * 1 ∧ (Instr.makeSlice 22 (.int .i64 0) (.int .i64 (m : Int))).run Tryd.prog w = .ok (.slice (some ⟨w.heap.size, 0, none⟩) 0 m) (w.alloc (.cells Z 71)) := by
  obtain ⟨i0, hi, hz0, hz1, hz2⟩ := info_parts Tryd.infoClass
  have hmk := run_make (P := Tryd.prog) w 22 71 i0 _ Tryd.underlying22 hi hz0 .i64 .i64 0 (m : Int) (by omega) (by omega) (by rw [hz2]; omega) (by omega)
  rw [hz1] at hmk
  refine ⟨_, ?_, hmk⟩
  rw [size_madeCells]
  rfl

set_option maxRecDepth 100000 in
set_option maxHeartbeats 2000000 in
theorem classes_any (v : Value) (cs : List ByteArray) (w : World) (h : ClassAt w v cs) (hn : cs.length ≤ 1000) :
    Calls Tryd.prog 31 #[v] w fun e w' => ∃ u, e = .returned u ∧ OwnK w' w.heap.size u cs ∧ Upd [] w w' := by
  obtain ⟨i0, hi, hz0, hz1, hz2⟩ := info_parts Tryd.infoClass
  have HI := Lib.hid hi
  have HZ0 := Lib.hid hz0
  have HZ1 := Lib.hid hz1
  have HZ2 := Lib.hid hz2
  clear hi hz0 hz1 hz2
  obtain ⟨a, cap, rfl, ha, hl, hm, hx⟩ := h
  have HX0 := Lib.hid hx
  clear hx hm hl ha
  obtain ⟨Z, hZ, hmk⟩ := make_cls w cs.length (by omega)
  have HO := Lib.hid (show OwnK (w.alloc (.cells Z 71)) w.heap.size (.slice (some ⟨w.heap.size, 0, none⟩) 0 cs.length) [] from World.ownsRow_made w Z cs.length (Nat.le_refl _) (by unfold maxLen; omega) hZ)
  have HU0 := Lib.hid ((Upd.refl [] w).alloc (.cells Z 71))
  clear hZ
  go_enter Tryd.func31, Tryd.ntmps31
  go_wp2_with fail
  go_loopw [3, 4] (fun v iv wr => ∃ i : Nat, i ≤ cs.length ∧ iv = .int .i64 i ∧ Hid (OwnK wr w.heap.size v (cs.take i)) ∧ Hid (Upd [] w wr)) (fun _ iv _ => cs.length - (intOf iv).toNat)
  case atStart => exact ⟨0, by omega, rfl, HO.out, HU0.out⟩
  case round =>
    clear HO HU0
    obtain ⟨i, hi, rfl, HX, HU⟩ := hrel
    obtain ⟨wo, rfl⟩ : ∃ wo : World, wo = wr := ⟨_, rfl⟩
    have hli : (cs.take i).length = i := by rw [List.length_take]; omega
    obtain ⟨vp, vc, hv⟩ := HX.out.shape
    rw [hli] at hv
    subst hv
    have HLI := Lib.hid hli
    clear hli
    by_cases hlt : i < cs.length
    · obtain ⟨b, o, rfl, hbd, hi0⟩ := HX0.out i hlt
      have hi0 := HU.out.cell hi0 (by simp)
      have HT : Hid (cs.take i ++ [cs.getD i ByteArray.empty] = cs.take (i + 1)) := by
        show _ = _
        rw [List.take_succ_eq_append_getElem hlt, List.getD_eq_getElem?_getD, List.getElem?_eq_getElem hlt]
        rfl
      generalize cs.getD i ByteArray.empty = x at hi0 hbd HT
      clear hbd
      go_wp2_with (at_builtin; refine stop_here ?_)
      refine Hid.mk ?_
      have hrow : (wo.alloc (.cells #[.string x] 71)).ownsRow w.heap.size 71 1 (.slice vp (i) vc) (i) ((cs.take i).map Value.string) := by
        have h := HX.out.upd ((Upd.refl [] wo).alloc (.cells #[.string x] 71))
        unfold OwnK at h
        rwa [HLI.out] at h
      have hsz := HU.out.size
      refine (wpList_append_src rfl _ _ 22 rfl w.heap.size 71 i0 _ 1 16 Tryd.underlying22 HI.out HZ0.out HZ1.out HZ2.out rfl (by decide) _ _ _ rfl hrow _ 1 [.string x] rfl (.inr ⟨_, _, rfl, fun j u hu => by
        rw [Addr.add_lit, Nat.zero_add, cell_of (heap_alloc_new wo _)]
        show (#[Value.string x])[j]? = some u
        rw [← List.getElem?_toArray] at hu
        exact hu⟩) rfl (by intro u hu; simp at hu; subst hu; rfl) (by unfold maxLen; omega) (by omega) (by simp; omega) ?_)
      intro v' w7 hown hgr _
      obtain ⟨hP, hW, hB⟩ := HX.out.push (c := x) (by rw [HLI.out]) hown hgr
      have hP : OwnK w7 w.heap.size v' (cs.take (i + 1)) := by rw [HT.out] at hP; exact hP
      have HP := Lib.hid hP
      have HU7 := Lib.hid (HU.out.trans' hW (fun q hq hl => by have := (hB q hq).1; omega))
      obtain ⟨vp', vc', hv'⟩ := hP.shape
      subst hv'
      clear hP hW hB hown hgr hrow hsz
      have HL2 : Hid ((cs.take (i + 1)).length = i + 1) := by show _ = _; rw [List.length_take]; omega
      rw [HL2.out] at HP ⊢
      clear HL2 HT hi0
      go_wp2_with fail
      go_roundw
      case rel => exact ⟨i + 1, by omega, by go_num, HP.out, HU7.out⟩
      case measure => simp [intOf]; omega
    · obtain rfl : i = cs.length := by omega
      have HXX : Hid (OwnK wo w.heap.size (.slice vp cs.length vc) cs) := by
        have h := HX.out
        rwa [List.take_length] at h
      clear HX HLI
      go_wp2_with fail
      go_ret
      exact ⟨_, rfl, HXX.out, HU.out⟩
end Go.Proofs.YtpmfbhoochogoaaDoor
