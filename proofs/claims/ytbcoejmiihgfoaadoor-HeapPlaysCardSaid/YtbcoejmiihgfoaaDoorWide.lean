/- A heap's words are 64 bits wide; the chapter's example as data. -/
import Derived.Test.YtbcoejmiihgfoaaDoorSame
import Derived.Test.YtbcoejmiihgfoaaDoorShape3
namespace Go.Proofs.YtbcoejmiihgfoaaDoor
open Go.RowKit

/-- All words are 64 bits wide. -/
def Hp.Wide (S : Hp) : Prop := ∀ i, -9223372036854775808 ≤ S.A.getD i 0 ∧ S.A.getD i 0 ≤ 9223372036854775807

theorem Hp.Wide.rng {S : Hp} (h : S.Wide) : S.Rng := fun _ _ _ => h _

theorem wide_new (cs : List ByteArray) (lim nur : Int) : (Hp.new cs lim nur).Wide := fun i => by
 have : (Hp.new cs lim nur).A.getD i 0 = 0 := by simp only [Hp.new]; exact getD_rep _ _
 rw [this]; omega

theorem wide_laid {S : Hp} (hS : S.Ok) (h : S.Wide) {k : Nat} {c wd : Int} (f : Fits S k c wd) : (S.laid k c wd).Wide := fun i => by
 rw [laid_get hS f]
 have h1 := f.c1; have h2 := f.c2; have h3 := f.w1; have h4 := f.w2; have h5 := hS.few
 split
 ·unfold packV; omega
 ·split
  ·omega
  ·exact h i

theorem wide_raw {S : Hp} (h : S.Wide) (hS : S.Ok) {r i v : Int} (hr : S.is r = true) (h0 : 0 ≤ i) (h1 : i < S.num r) (hv : -9223372036854775808 ≤ v ∧ v ≤ 9223372036854775807) : (S.raw r i v).Wide := fun j => by
 obtain ⟨g1, g2, g3, _⟩ := hS.le hr
 show _ ≤ (S.A.set (r + 1 + i).toNat v).getD j 0 ∧ (S.A.set (r + 1 + i).toNat v).getD j 0 ≤ _
 rw [getD_set _ _ _ _ (by omega)]
 split
 ·exact hv
 ·exact h j

theorem wide_put {S : Hp} (h : S.Wide) (hS : S.Ok) {r i v : Int} (hm : S.mayRaw r i v = true) (hv : -9223372036854775808 ≤ v ∧ v ≤ 9223372036854775807) : (S.put r i v).Wide := by
 simp only [Hp.mayRaw, Bool.and_eq_true, decide_eq_true_eq] at hm
 have := wide_raw h hS hm.1.1 hm.1.2.1 hm.1.2.2 hv
 unfold Hp.put
 split
 ·exact this
 ·exact this

def IR : ByteArray := { data := #[73, 82] }
def F0 : Hp := Hp.new [IR] 100 20
def F1 : Hp := F0.laid 0 0 4
def F2 : Hp := F1.put 1 1 1

theorem f_words : F0.words 0 0 = 4 := by decide +kernel
theorem f_top : F0.y.top + 1 = 1 := by decide +kernel
theorem f_room : F1.y.to - F1.y.top = 16 ∧ F1.old.to - F1.old.top = 40 := by decide +kernel
theorem f_may : F1.mayRaw 1 1 1 = true := by decide +kernel
theorem f_out : F2.outN 1 ([], (F2.roots [1, 0]).2) = ([(0, [0, 0])], [1]) := by decide +kernel
theorem f_roots : (F2.roots [1, 0]).1 = [0, -1] := by decide +kernel
theorem f_shape : F2.shape [1, 0] = ([(0, [0, 0])], [0, -1]) := by
 have h : F2.outN (F2.A.length + 1) ([], (F2.roots [1, 0]).2) = F2.outN 1 ([], (F2.roots [1, 0]).2) := outN_stay F2 _ 1 _ (by rw [f_out]; decide) (by omega)
 unfold Hp.shape
 rw [h, f_out, f_roots]

theorem oflat_get (ps : List OP) (k : Nat) (hk : k < ps.length) : (oflat ps)[2 * k]? = some (.int .i64 (ps[k]'hk).c) ∧ (oflat ps)[2 * k + 1]? = some (ps[k]'hk).v := by
 induction ps generalizing k with
 | nil => simp at hk
 | cons p t ih =>
  cases k with
  | zero => simp [oflat]
  | succ k =>
   have h := ih k (by simpa using hk)
   have e : oflat (p :: t) = Value.int .i64 p.c :: p.v :: oflat t := by simp [oflat]
   rw [e, show 2 * (k + 1) = 2 * k + 1 + 1 by omega, List.getElem?_cons_succ, List.getElem?_cons_succ, List.getElem?_cons_succ, List.getElem?_cons_succ]
   exact h

theorem OutSt.obj1 {w : World} {B : Nat} {L : HL} {cv mv : Value} {S : Hp} {ov : Value} {od : List Int} {av : Value} {ats : List Int} {uv : Value} {ps : List OP} (h : OutSt w B L cv mv S ov od av ats uv ps) (hps : 0 < ps.length) :
  ∃ ub cap, uv = .slice (some ⟨ub, 0, none⟩) ps.length cap ∧ ∀ k (hk : k < ps.length), w.cell? ⟨ub, 2 * k, none⟩ = some (.int .i64 (ps[k]'hk).c) ∧ w.cell? ⟨ub, 2 * k + 1, none⟩ = some (ps[k]'hk).v := by
 rcases h.out.2 with ⟨_, hn⟩ | ⟨g, cap, cur, hv, _⟩
 ·omega
 ·refine ⟨g, cap, hv, fun k hk => ?_⟩
  obtain ⟨h1, h2⟩ := oflat_get ps k hk
  have h3 := h.out.cells (g := g) (by rw [hv]; rfl) _ _ h1
  have h4 := h.out.cells (g := g) (by rw [hv]; rfl) _ _ h2
  rw [Addr.add_lit, Nat.zero_add] at h3 h4
  exact ⟨h3, h4⟩

theorem f_fits : Fits F0 0 0 4 := ⟨by omega, by omega, by decide, by omega, by omega, fun _ => by decide, by decide⟩
theorem f_wide (h0 : F0.Ok) (h1 : F1.Ok) : F2.Wide := wide_put (wide_laid h0 (wide_new _ _ _) f_fits) h1 f_may (by omega)
end Go.Proofs.YtbcoejmiihgfoaaDoor
