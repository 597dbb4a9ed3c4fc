/- VerifyMeets: the law's walk. -/
import Derived.Test.YtjndigfmemdmjaaDoorWithW
import Derived.Test.YtjndigfmemdmjaaDoorFirst7
import Derived.Test.YtjndigfmemdmjaaDoorVerL6
import Derived.Test.YtjndigfmemdmjaaDoorFaultA
namespace Go.Proofs.YtjndigfmemdmjaaDoor
open Go.RowKit

theorem twice_snoc : ∀ n, twice (n + 1) = twice n ++ [⟨5, 0, 0, 0⟩, ⟨6, 0, 0, 0⟩]
  | 0 => rfl
  | n + 1 => by
    have ih := twice_snoc n
    show (⟨5, 0, 0, 0⟩ :: ⟨6, 0, 0, 0⟩ :: twice (n + 1) : List Ins) = (⟨5, 0, 0, 0⟩ :: ⟨6, 0, 0, 0⟩ :: twice n) ++ [⟨5, 0, 0, 0⟩, ⟨6, 0, 0, 0⟩]
    rw [List.cons_append, List.cons_append, ← ih]
theorem twice_len : ∀ n, (twice n).length = 2 * n
  | 0 => rfl
  | n + 1 => by simp only [twice, List.length_cons, twice_len n]; omega
theorem and_3 (a : Int) : bits BinOp.and IntKind.i64 a 3 = a % 4 := and_mask a 2 3 (by omega) (by decide)
def meetH (a b : Bool) : List Ins := [⟨34, 0, 0, 0⟩, ⟨23, 4, 0, 0⟩, pushI a, ⟨22, 5, 0, 0⟩, pushI b]
def bdS (x : Ins) : Bool := decide (-1000 ≤ x.op ∧ x.op ≤ 1000 ∧ -1000 ≤ x.a ∧ x.a ≤ 1000 ∧ -1000 ≤ x.b ∧ x.b ≤ 1000 ∧ -1000 ≤ x.n ∧ x.n ≤ 1000)
theorem bdS_all {xs : List Ins} (h : xs.all bdS = true) : ∀ i, i < xs.length → (xs.getD i default).bd := by
  intro i hi
  have h2 := List.all_eq_true.1 h (xs.getD i default) (by rw [List.getD_eq_getElem?_getD, List.getElem?_eq_getElem hi]; exact List.getElem_mem hi)
  have h3 := of_decide_eq_true h2
  unfold Ins.bd
  omega
theorem meet_small (a b : Bool) (n : Nat) (hn : n < 4) : ∀ i, i < (meetC a b n).length → ((meetC a b n).getD i default).bd := by
  have h : n = 0 ∨ n = 1 ∨ n = 2 ∨ n = 3 := by omega
  rcases h with rfl | rfl | rfl | rfl <;> cases a <;> cases b <;> exact bdS_all (by decide +kernel)
set_option maxRecDepth 100000 in
theorem meet_ok (a b : Bool) (n : Nat) (hn : n < 4) : (withM (plainM (meetC a b n))).Ok := by
  have h : n = 0 ∨ n = 1 ∨ n = 2 ∨ n = 3 := by omega
  rcases h with rfl | rfl | rfl | rfl <;> cases a <;> cases b <;> exact okB_ok (by decide +kernel)
theorem ret_first (m : Meth) : ∃ s, lookM (withM m) ((withM m).ms.getD 0 default) = .ok s := by
  have hr : Row (withM m) ((withM m).ms.getD 0 default) (fun _ => []) 0 := ⟨by show 0 < 1; omega, rfl, fun i hi => by omega, fun i hi => by omega⟩
  have hx : (((withM m).ms.getD 0 default).code.getD 0 default).op = 33 := rfl
  refine ⟨_, hr.ret ?_ (nextL_ret (by show 0 < 1; omega) hx)⟩
  have he := eff_ret (withM m) ((withM m).ms.getD 0 default) _ hx
  have he2 : effL (withM m) ((withM m).ms.getD 0 default) (((withM m).ms.getD 0 default).code.getD 0 default) = some ([], []) := by rw [he]; show some (ByteArray.empty.toList, []) = _; rw [empty_toList]
  exact behL_of (u := []) (by rw [hx]; decide) (by rw [hx]; decide) (by rw [hx]; decide) he2 (by decide) (.inr rfl)

set_option maxRecDepth 100000 in
set_option maxHeartbeats 4000000 in
theorem meetsW_any (E : Nat → Addr) (a b : Bool) (n : Int) (w : World) (hS : SentAt w E) :
    Calls Tryd.prog 6 #[.bool a, .bool b, .int .i64 n] w fun e w' => e = .returned (.bool true) ∧ Upd [] w w' := by
  obtain ⟨i0, hi, hz0, hz1, hz2⟩ := info_parts Tryd.infoInstr
  have HI := Lib.hid hi
  have HZ0 := Lib.hid hz0
  have HZ1 := Lib.hid hz1
  have HZ2 := Lib.hid hz2
  clear hi hz0 hz1 hz2
  have HS := Lib.hid hS
  obtain ⟨k, hk⟩ : ∃ k : Nat, n % 4 = (k : Int) := ⟨(n % 4).toNat, by omega⟩
  have hk4 : k < 4 := by omega
  have hand := and_3 n
  rw [hk] at hand
  clear hk hS
  go_enter Tryd.func6, Tryd.ntmps6
  go_wp2_with fail
  refine (first7_any E w HS.out).mono ?_
  rintro e w1 ⟨rfl, hu1⟩
  have HU1 := Lib.hid hu1
  clear hu1
  go_wp2_with fail
  refine (func2_any a _).mono ?_
  rintro e w2 ⟨rfl, hu2⟩
  have ha3 := (Upd.refl [] w2).alloc (.cells #[.int .i64 (pushI a).op, .int .i64 0, .int .i64 0, .int .i64 (pushI a).n] 42)
  have hb3 := heap_alloc_new w2 (.cells #[.int .i64 (pushI a).op, .int .i64 0, .int .i64 0, .int .i64 (pushI a).n] 42)
  have HU3 := Lib.hid ((HU1.out.trans hu2).trans ha3)
  clear hu2 ha3
  go_upto_region 4 with fail
  generalize w2.alloc (.cells #[.int .i64 (pushI a).op, .int .i64 0, .int .i64 0, .int .i64 (pushI a).n] 42) = w3 at hb3 HU3 ⊢
  generalize w2.heap.size = b8 at hb3 ⊢
  have HB3 := Lib.hid hb3
  clear hb3
  go_wp2_with fail
  refine (func2_any b _).mono ?_
  rintro e w4 ⟨rfl, hu4⟩
  have ha5 := (Upd.refl [] w4).alloc (.cells #[.int .i64 (pushI b).op, .int .i64 0, .int .i64 0, .int .i64 (pushI b).n] 42)
  have hb5 := heap_alloc_new w4 (.cells #[.int .i64 (pushI b).op, .int .i64 0, .int .i64 0, .int .i64 (pushI b).n] 42)
  have hb3 := (hu4.trans ha5).heap HB3.out (by simp)
  have HU5 := Lib.hid (HU3.out.trans (hu4.trans ha5))
  clear hu4 ha5
  go_upto_region 5 with fail
  generalize w4.alloc (.cells #[.int .i64 (pushI b).op, .int .i64 0, .int .i64 0, .int .i64 (pushI b).n] 42) = w5 at hb3 hb5 HU5 ⊢
  generalize w4.heap.size = b9 at hb5 ⊢
  have x0 : w5.cell? ⟨b8, 0, none⟩ = some (.int .i64 (pushI a).op) := by rw [cell_of hb3]; rfl
  have x1 : w5.cell? ⟨b8, 1, none⟩ = some (.int .i64 0) := by rw [cell_of hb3]; rfl
  have x2 : w5.cell? ⟨b8, 2, none⟩ = some (.int .i64 0) := by rw [cell_of hb3]; rfl
  have x3 : w5.cell? ⟨b8, 3, none⟩ = some (.int .i64 (pushI a).n) := by rw [cell_of hb3]; rfl
  have y0 : w5.cell? ⟨b9, 0, none⟩ = some (.int .i64 (pushI b).op) := by rw [cell_of hb5]; rfl
  have y1 : w5.cell? ⟨b9, 1, none⟩ = some (.int .i64 0) := by rw [cell_of hb5]; rfl
  have y2 : w5.cell? ⟨b9, 2, none⟩ = some (.int .i64 0) := by rw [cell_of hb5]; rfl
  have y3 : w5.cell? ⟨b9, 3, none⟩ = some (.int .i64 (pushI b).n) := by rw [cell_of hb5]; rfl
  have HX6 := Lib.hid (OwnX.lit w5 w.heap.size (meetH a b) HU5.out.size (by show 5 ≤ 1000; omega))
  have HU6 := Lib.hid (HU5.out.alloc (.cells (xcells (meetH a b)).toArray 42))
  have e6 : w5.alloc (.cells #[.int .i64 34, .int .i64 0, .int .i64 0, .int .i64 0, .int .i64 23, .int .i64 4, .int .i64 0, .int .i64 0, .int .i64 (pushI a).op, .int .i64 0, .int .i64 0, .int .i64 (pushI a).n, .int .i64 22, .int .i64 5, .int .i64 0, .int .i64 0, .int .i64 (pushI b).op, .int .i64 0, .int .i64 0, .int .i64 (pushI b).n] 42) = w5.alloc (.cells (xcells (meetH a b)).toArray 42) := by
    cases a <;> cases b <;> rfl
  go_upto_region 6 with fail
  clear e6 x0 x1 x2 x3 y0 y1 y2 y3 hb3 hb5
  generalize w5.alloc (.cells (xcells (meetH a b)).toArray 42) = w6 at HX6 HU6 ⊢
  generalize w5.heap.size = g6 at HX6 ⊢
  have hlh : (meetH a b).length = 5 := rfl
  go_wp2_with fail
  go_loopw [10, 11] (fun v iv wr => ∃ i : Nat, i ≤ k ∧ iv = .int .i64 i ∧ Hid (OwnX wr w.heap.size v (meetH a b ++ twice i)) ∧ Hid (Upd [] w wr)) (fun _ iv _ => k - (intOf iv).toNat)
  case atStart => exact ⟨0, by omega, rfl, by show OwnX _ _ _ (meetH a b ++ []); rw [List.append_nil]; exact HX6.out, HU6.out⟩
  case round =>
    obtain ⟨i, hi, rfl, HX, HU⟩ := hrel
    obtain ⟨wo, rfl⟩ : ∃ wo : World, wo = wr := ⟨_, rfl⟩
    have hli : (meetH a b ++ twice i).length = 5 + 2 * i := by rw [List.length_append, twice_len]; rfl
    obtain ⟨vp, vc, hv⟩ := HX.out.shape
    rw [hli] at hv
    subst hv
    have HLI := Lib.hid hli
    clear hli
    by_cases hlt : i < k
    · go_wp2_with (at_builtin; refine stop_here ?_)
      refine Hid.mk ?_
      have hrow : (wo.alloc (.cells (xcells [⟨5, 0, 0, 0⟩, ⟨6, 0, 0, 0⟩]).toArray 42)).ownsRow w.heap.size 42 4 (.slice vp (5 + 2 * i) vc) (5 + 2 * i) (xcells (meetH a b ++ twice i)) := by
        have h := HX.out.upd ((Upd.refl [] wo).alloc (.cells (xcells [⟨5, 0, 0, 0⟩, ⟨6, 0, 0, 0⟩]).toArray 42))
        unfold OwnX at h
        rwa [HLI.out] at h
      have hsz := HU.out.size
      refine (wpList_append_src rfl _ _ 35 rfl w.heap.size 42 i0 _ 4 32 Tryd.underlying35 HI.out HZ0.out HZ1.out HZ2.out rfl (by decide) _ _ _ rfl hrow _ 2 (xcells [⟨5, 0, 0, 0⟩, ⟨6, 0, 0, 0⟩]) rfl (.inr ⟨_, _, rfl, fun j u hu => by
        rw [Addr.add_lit, Nat.zero_add, cell_of (heap_alloc_new wo _)]
        show ((xcells [⟨5, 0, 0, 0⟩, ⟨6, 0, 0, 0⟩]).toArray)[j]? = some u
        rw [List.getElem?_toArray]
        exact hu⟩) rfl (xcells_one _) (by unfold maxLen; omega) (by omega) (by simp; omega) ?_)
      intro v' w7 hown hgr _
      obtain ⟨hP, hW, hB⟩ := HX.out.push (ys := [⟨5, 0, 0, 0⟩, ⟨6, 0, 0, 0⟩]) (by rw [HLI.out]; rfl) hown hgr
      rw [List.append_assoc, ← twice_snoc] at hP
      have HP := Lib.hid hP
      have HU7 := Lib.hid (HU.out.trans' hW (fun q hq hl => by have := (hB q hq).1; omega))
      obtain ⟨vp', vc', hv'⟩ := hP.shape
      subst hv'
      clear hP hW hB hown hgr hrow hsz
      have hl2 : (meetH a b ++ twice (i + 1)).length = 5 + 2 * (i + 1) := by rw [List.length_append, twice_len]; rfl
      rw [hl2] at HP ⊢
      clear hl2
      go_wp2_with fail
      go_roundw
      case rel => exact ⟨i + 1, by omega, by go_num, HP.out, HU7.out⟩
      case measure => simp [intOf]; omega
    · obtain rfl : i = k := by omega
      go_wp2_with (at_builtin; refine stop_here ?_)
      refine Hid.mk ?_
      have hrow : (wo.alloc (.cells (xcells [⟨6, 0, 0, 0⟩, ⟨33, 0, 0, 0⟩]).toArray 42)).ownsRow w.heap.size 42 4 (.slice vp (5 + 2 * i) vc) (5 + 2 * i) (xcells (meetH a b ++ twice i)) := by
        have h := HX.out.upd ((Upd.refl [] wo).alloc (.cells (xcells [⟨6, 0, 0, 0⟩, ⟨33, 0, 0, 0⟩]).toArray 42))
        unfold OwnX at h
        rwa [HLI.out] at h
      have hsz := HU.out.size
      refine (wpList_append_src rfl _ _ 35 rfl w.heap.size 42 i0 _ 4 32 Tryd.underlying35 HI.out HZ0.out HZ1.out HZ2.out rfl (by decide) _ _ _ rfl hrow _ 2 (xcells [⟨6, 0, 0, 0⟩, ⟨33, 0, 0, 0⟩]) rfl (.inr ⟨_, _, rfl, fun j u hu => by
        rw [Addr.add_lit, Nat.zero_add, cell_of (heap_alloc_new wo _)]
        show ((xcells [⟨6, 0, 0, 0⟩, ⟨33, 0, 0, 0⟩]).toArray)[j]? = some u
        rw [List.getElem?_toArray]
        exact hu⟩) rfl (xcells_one _) (by unfold maxLen; omega) (by omega) (by simp; omega) ?_)
      intro v' w7 hown hgr _
      obtain ⟨hP, hW, hB⟩ := HX.out.push (ys := [⟨6, 0, 0, 0⟩, ⟨33, 0, 0, 0⟩]) (by rw [HLI.out]; rfl) hown hgr
      have hP : OwnX w7 w.heap.size v' (meetC a b i) := hP
      have hcd := hP.code (meet_small a b i hk4)
      have HU7 := Lib.hid (HU.out.trans' hW (fun q hq hl => by have := (hB q hq).1; omega))
      obtain ⟨vp', vc', hv'⟩ := hP.shape
      subst hv'
      have HWITH := Lib.hid (with_any (plainM (meetC a b i)) _ w7 hcd ⟨Nat.zero_le _, Nat.zero_le _, Nat.zero_le _⟩)
      clear hP hW hB hown hgr hrow hsz hcd
      rw [show (plainM (meetC a b i)).params = ⟨#[]⟩ from rfl, show (plainM (meetC a b i)).locals = ⟨#[]⟩ from rfl, show (plainM (meetC a b i)).ret = ⟨#[]⟩ from rfl] at HWITH
      go_wp2_with fail
      refine HWITH.out.mono ?_
      rintro e w8 ⟨cv, mv, rfl, hc8, hm8, hu8⟩
      have HU8 := Lib.hid (HU7.out.trans hu8)
      have HOF := Lib.hid (ofV_any (withM (plainM (meetC a b i))) cv mv E w8 (HS.out.upd (HU7.out.trans hu8)) hc8 hm8)
      have hmf := meet_fault a b i hk4
      clear hc8 hm8 hu8 HWITH
      go_wp2_with fail
      refine HOF.out.mono ?_
      rintro e w9 ⟨v9, rfl, hend⟩
      by_cases hab : a = b
      · have hba : (a == b) = true := by simpa using hab
        rw [if_pos hab] at hmf
        obtain ⟨ib, ss, _, _, rfl, _, _, hu9⟩ := hend.good (meet_ok a b i hk4) (by
          intro j hj
          have : j = 0 ∨ j = 1 := by have h : (withM (plainM (meetC a b i))).ms.length = 2 := rfl; omega
          rcases this with rfl | rfl
          · exact ret_first _
          · have h1 : (withM (plainM (meetC a b i))).ms.getD 1 default = plainM (meetC a b i) := rfl
            rw [h1]
            cases hr : lookM (withM (plainM (meetC a b i))) (plainM (meetC a b i)) with
            | ok s => exact ⟨s, rfl⟩
            | error e =>
              rw [hr] at hmf
              obtain ⟨c, pc⟩ := e
              have hmf : c = 0 := hmf
              have := look_code hr
              omega)
        have HU9 := Lib.hid (HU8.out.trans hu9)
        clear hend hmf hu9 hab
        go_wp2_with fail
        go_ret
        exact ⟨rfl, HU9.out⟩
      · have hba : (a == b) = false := by rw [beq_eq_false_iff_ne]; exact hab
        rw [if_neg hab] at hmf
        obtain ⟨pc, hpc⟩ : ∃ pc, lookM (withM (plainM (meetC a b i))) (plainM (meetC a b i)) = .error (109, pc) := by
          cases hr : lookM (withM (plainM (meetC a b i))) (plainM (meetC a b i)) with
          | ok s => rw [hr] at hmf; cases hmf
          | error e =>
            rw [hr] at hmf
            obtain ⟨c, pc⟩ := e
            have hmf : c = 109 := hmf
            exact ⟨pc, by rw [hmf]⟩
        obtain ⟨ev, rfl, herr, hu9⟩ := hend.bad (meet_ok a b i hk4) (k := 1) (by show 1 < 2; omega) (by
          intro j hj
          obtain rfl : j = 0 := by omega
          exact ret_first _) hpc
        have HU9 := Lib.hid (HU8.out.trans hu9)
        have HF := Lib.hid (Fault_any E ev 109 _ w9 (HS.out.upd (HU8.out.trans hu9)) herr)
        obtain ⟨tz, tp, rfl⟩ : ∃ tz tp, ev = .iface tz (.pointer tp) := by
          rcases herr.2 with ⟨h, _⟩ | ⟨_, _, _, _, _, h, _⟩
          · cases h
          · exact ⟨_, _, h⟩
        clear hend hmf hu9 hab herr hpc
        go_wp2_with fail
        refine HF.out.mono ?_
        rintro e w10 ⟨sv, sb, rfl, hsi, hu10⟩
        obtain ⟨sp, sc, rfl⟩ := hsi.form
        have hfc := fault_code
        go_wp2_with fail
        go_ret
        exact ⟨rfl, HU9.out.trans hu10⟩
end Go.Proofs.YtjndigfmemdmjaaDoor
