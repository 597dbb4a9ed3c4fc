/- A [][]int that comes in, opened; the library's table of the trailing zeros, read off what is laid. -/
import Derived.Test.YtjjkliifpdcliaaDoorFrame
import Derived.Test.YtjjkliifpdcliaaDoorLists
import Derived.Test.YtjjkliifpdcliaaDoorEach
import Derived.Deep.Matrix
import Derived.Lib.LaidTab
import Derived.Lib.LaidU8
namespace Go.Proofs.YtjjkliifpdcliaaDoor
open Go.RowKit Go.ChangeShapes Go.WideShapes Go.Deep

section
variable {H : Type} {enc : TypeId × Value → H} {W : World}

theorem weightsAll_mem {P : Program} {e : TypeId} {d : DataW H} {n : Nat} : ∀ {ds : List (DataW H)}, d ∈ ds → n ∈ d.weights P e → n ∈ DataW.weightsAll P e ds
  | x :: r, hd, hn => by
    unfold DataW.weightsAll
    rw [List.mem_append]
    rcases List.mem_cons.1 hd with rfl | hd
    · exact .inl hn
    · exact .inr (weightsAll_mem hd hn)

theorem open_lists {v : Value} {d : DataW H} {p : List MemPlace} (hv : ∃ a len cap, v = .slice a len cap) (h : DataW.Trod enc Tryd.prog W 0 (fun _ => true) true 22 v d p)
    (hsz : ∀ n ∈ d.weights Tryd.prog 22, n ≤ reachBytes) : ∃ g, RowsAt W v g := by
  obtain ⟨a0, len0, cap0, rfl⟩ := hv
  obtain ⟨fuel, hf⟩ := h
  rcases open_int_rows (k := .i64) Tryd.underlying22 Tryd.underlying27 Tryd.underlying3 (by kernel_rfl) (by kernel_rfl) hf with ⟨hcs, _⟩ | ⟨a, len, cap, A, L, C, Z, hcs, _, hl, hm, hx, hr⟩
  · simp [Value.cells] at hcs
    obtain ⟨rfl, rfl, rfl⟩ := hcs
    exact ⟨[], none, 0, rfl, by simp [maxLen], fun i hi => absurd hi (by simp)⟩
  · simp [Value.cells] at hcs
    obtain ⟨rfl, rfl, rfl⟩ := hcs
    simp only [Prod.mk.injEq] at hx
    obtain ⟨rfl, rfl⟩ := hx
    refine ⟨(List.range len0).map fun r => (Z r).take (L r), some a, cap0, by simp, by simp; omega, fun i hi => ?_⟩
    have hi' : i < len0 := by simpa using hi
    obtain ⟨hc, hLC, hCm, hZ, hwf, hnone, hsome⟩ := hr i (by omega)
    obtain ⟨b, o, sp⟩ := a
    have hsp : sp = none := by
      obtain ⟨hc', _⟩ := hr 0 (by omega)
      exact cell_spot hc'
    subst hsp
    have hlen : ((Z i).take (L i)).length = L i := by simp; omega
    have hget : ((List.range len0).map fun r => (Z r).take (L r)).getD i [] = (Z i).take (L i) := by simp [List.getD_eq_getElem?_getD, hi']
    rw [Addr.add_lit] at hc
    refine ⟨b, o, _, rfl, hc, ?_⟩
    rw [hget]
    refine ⟨A i, C i, by rw [hlen], ?_, fun j hj => ?_⟩
    · rw [hlen]
      cases hA : A i with
      | none => have := hnone hA; omega
      | some a' =>
        have hw := hsz ((((Z i).take (L i)).length + ((Z i).drop (L i)).length) * 8) (by
          have hd : intRow (H := H) .i64 (A i) (L i) (Z i) ∈ (List.range len0).map fun r => intRow (H := H) .i64 (A r) (L r) (Z r) := List.mem_map.2 ⟨i, List.mem_range.2 hi', rfl⟩
          unfold DataW.weights
          rw [Tryd.underlying22]
          simp only
          refine List.mem_cons_of_mem _ (List.mem_append_left _ (weightsAll_mem hd ?_))
          rw [hA]
          unfold intRow DataW.weights
          rw [Tryd.underlying27]
          simp only [lits, List.length_map]
          have hb : Tryd.prog.bytesOf 3 = 8 := by kernel_rfl
          rw [hb]
          exact List.mem_cons_self)
        have := reachBytes_lt
        rw [hlen] at hw
        omega
    · rw [hlen] at hj
      cases hA : A i with
      | none => have := hnone hA; omega
      | some a' =>
        obtain ⟨_, hcc⟩ := hsome a' hA
        have h1 := hcc j (by omega)
        obtain ⟨b2, o2, sp2⟩ := a'
        have hsp2 : sp2 = none := cell_spot (hcc 0 (by omega))
        subst hsp2
        have hgj : ((Z i).take (L i)).getD j 0 = (Z i).getD j 0 := by
          simp [List.getD_eq_getElem?_getD, hj]
        refine ⟨b2, o2, rfl, ?_, ?_⟩
        · rw [hgj]
          refine bd_i64 (hwf _ ?_)
          rw [List.getD_eq_getElem?_getD, List.getElem?_eq_getElem (by omega)]
          exact List.getElem_mem _
        · rw [hgj]
          rw [Addr.add_lit] at h1
          exact h1

end

theorem tz_of_laid {W : World} (h : laidMetH Tryd.prog [("math/bits.deBruijn64tab", Rows.laid_math_bits_deBruijn64tab)] W) : TzAt W := by
  have h2 : laidMet Tryd.prog [("math/bits.deBruijn64tab", Lib.tabData .u8 (Lib.deBruijn64tab.map fun (x : Nat) => (x : Int)))] W := h
  have hT := Lib.tabIs_of_head (g := 0) (n := 64) (by kernel_rfl) (by kernel_rfl) Tryd.underlying113 Tryd.underlying5 (by kernel_rfl) (by kernel_rfl) h2
  intro j hj
  have := hT.cell (g := 0) (by kernel_rfl) j (by simpa using hj)
  rw [this]
  simp [List.getD_eq_getElem?_getD, List.getElem?_eq_getElem hj]

end Go.Proofs.YtjjkliifpdcliaaDoor
