/- What a program means, plain: each step of a verified program's machine keeps it well formed, and brings it nearer to its end. What a program means, plain: whole runs; more fuel, more inputs; where a run may end. What a program means, plain: no stack of a verified program is long. -/
import Derived.Test.YtojobkhidlfeoaaGreatDoorMdT
/-! What a program means, plain: each step of a verified program's machine keeps it well formed, and brings it nearer to its end. -/
namespace Go.Proofs.YtojobkhidlfeoaaGreatDoor

/-- A verified program. -/
structure Vf (p : Prg) (ss : List Lk) : Prop where
  ok : p.Ok
  look : Looks p ss
  bd : p.Bd

theorem nextL_one {xs : List Ins} {pc : Nat} (h : pc < xs.length) (h1 : (xs.getD pc default).op ≠ 33) (h2 : (xs.getD pc default).op ≠ 22) (h3 : (xs.getD pc default).op ≠ 23) : nextL xs pc = [(pc : Int) + 1] := by
  unfold nextL
  rw [if_pos ⟨by omega, by omega⟩]
  simp only [Int.toNat_natCast]
  rw [if_neg h1, if_neg h2, if_neg h3]
theorem nextL_jump {xs : List Ins} {pc : Nat} (h : pc < xs.length) (h2 : (xs.getD pc default).op = 22) : (xs.getD pc default).a ∈ nextL xs pc := by
  unfold nextL
  rw [if_pos ⟨by omega, by omega⟩]
  simp only [Int.toNat_natCast]
  rw [if_neg (by omega), if_pos h2]
  exact List.mem_singleton.2 rfl
theorem nextL_zero {xs : List Ins} {pc : Nat} (h : pc < xs.length) (h2 : (xs.getD pc default).op = 23) : (xs.getD pc default).a ∈ nextL xs pc ∧ (pc : Int) + 1 ∈ nextL xs pc := by
  unfold nextL
  rw [if_pos ⟨by omega, by omega⟩]
  simp only [Int.toNat_natCast]
  rw [if_neg (by omega), if_neg (by omega), if_pos h2]
  split
  · rename_i e; rw [e]; simp
  · split <;> simp

/-- The frame goes on there. -/
theorem At.to_ {p : Prg} {ss : List Lk} {S : Mc} {f : Fm} {x : Ins} {t : List UInt8} (h : At p ss S f x t) {k : Int} (hk : k ∈ nextL (p.ms.getD f.m default).code f.pc) (h0 : 0 ≤ k) {q : Nat} (hq : (q : Int) = k) {loc stk : List Vl} {n : Nat} (hl : kds loc = kds f.loc) (hs : kds stk = t) (lv : ∀ v ∈ loc, v.Ok n) (sv : ∀ v ∈ stk, v.Ok n) :
    Fm.Ok p ss n ⟨f.m, q, loc, stk⟩ (kds stk) := by
  obtain ⟨h1, h2, h3⟩ := h.next k hk
  have e : k.toNat = q := by omega
  rw [e] at h2 h3
  exact ⟨h.fr.m, by show q < (p.ms.getD f.m default).code.length; omega, h2, by rw [hs]; exact h3, by show kds loc = _; rw [hl]; exact h.fr.loc, lv, sv⟩
/-- .. just behind it. -/
theorem At.one {p : Prg} {ss : List Lk} {S : Mc} {f : Fm} {x : Ins} {t : List UInt8} (h : At p ss S f x t) (h33 : x.op ≠ 33) (h22 : x.op ≠ 22) : (f.pc : Int) + 1 ∈ nextL (p.ms.getD f.m default).code f.pc := by
  have hx := h.xe
  unfold Prg.at_ at hx
  by_cases h23 : x.op = 23
  · exact (nextL_zero h.fr.pc (by rw [← hx]; exact h23)).2
  · rw [nextL_one h.fr.pc (by rw [← hx]; exact h33) (by rw [← hx]; exact h22) (by rw [← hx]; exact h23)]
    exact List.mem_singleton.2 rfl
theorem At.jmp {p : Prg} {ss : List Lk} {S : Mc} {f : Fm} {x : Ins} {t : List UInt8} (h : At p ss S f x t) (h22 : x.op = 22 ∨ x.op = 23) : x.a ∈ nextL (p.ms.getD f.m default).code f.pc := by
  have hx := h.xe
  unfold Prg.at_ at hx
  rcases h22 with h22 | h22
  · have := nextL_jump h.fr.pc (by rw [← hx]; exact h22)
    rwa [← hx] at this
  · have := (nextL_zero h.fr.pc (by rw [← hx]; exact h22)).1
    rwa [← hx] at this
/-- The run ends at the frame. -/
theorem At.stop {p : Prg} {ss : List Lk} {S : Mc} {f : Fm} {x : Ins} {t : List UInt8} (h : At p ss S f x t) (k c : Int) : (S.stop k c f).Ok p ss :=
  ⟨h.ok.top, fun e => (by cases e), h.ok.objs, h.ok.inp, h.ok.out, h.ok.fuel, h.ok.room⟩
theorem enter_ok {p : Prg} {ss : List Lk} (v : Vf p ss) {m n : Nat} (hm : m < p.ms.length) {args : List Vl} (ha : kds args = (p.ms.getD m default).params.toList) (hv : ∀ u ∈ args, u.Ok n) : (p.enter m args).Ok p ss n (kds (p.enter m args).stk) := by
  have h1 := v.ok.meth m hm
  unfold headCode at h1
  split at h1
  · cases h1
  · rename_i h2
    split at h1
    · cases h1
    · rename_i h3
      rw [not_or, not_or, not_or, Decidable.not_not, Decidable.not_not] at h3
      have hlen : args.length = (p.ms.getD m default).params.toList.length := by rw [← kds_len, ha]
      have hg := look_good (by omega) (v.look.look m hm)
      refine ⟨hm, by show 0 < (p.ms.getD m default).code.length; omega, hg.1.zero, hg.1.empty, ?_, ?_, by show ∀ v ∈ ([] : List Vl), _; simp⟩
      · show kds (args ++ _) = _
        rw [kds_app, kds_zero, ha]
        · show _ ++ (kindsL _).drop args.length = kindsL (p.ms.getD m default)
          unfold kindsL
          rw [hlen, List.drop_left]
        · intro c hc
          have hc2 := List.mem_of_mem_drop hc
          unfold kindsL at hc2
          rcases List.mem_append.1 hc2 with h4 | h4
          · exact letters_mem h3.1 c h4
          · exact letters_mem h3.2.1 c h4
      · show ∀ u ∈ args ++ _, u.Ok n
        intro u hu
        rcases List.mem_append.1 hu with h4 | h4
        · exact hv u h4
        · obtain ⟨c, _, rfl⟩ := List.mem_map.1 h4
          exact zero_ok _ _
/-- A step that leaves the frames below alone. -/
theorem At.keep {p : Prg} {ss : List Lk} {S : Mc} {f : Fm} {below : List Fm} {x : Ins} {t : List UInt8} (h : At p ss S f x t) (hf : S.frs = f :: below) {q : Nat} {loc stk : List Vl} {objs : List Ob} {inp out : List Int} {fuel : Nat} (hq : Fm.Ok p ss objs.length ⟨f.m, q, loc, stk⟩ (kds stk))
    (ho : ∀ o ∈ objs, o.Ok p objs.length) (hl : S.objs.length ≤ objs.length) (hn : objs.length + out.length ≤ S.objs.length + S.out.length + 1) (hi : ∀ x ∈ inp, in64 x) (hu : ∀ x ∈ out, in64 x) (hfu : fuel ≤ S.fuel) (hmu : 123 * fuel + Fm.mu p ⟨f.m, q, loc, stk⟩ < 123 * S.fuel + f.mu p) :
    Mc.Ok p ss ⟨⟨f.m, q, loc, stk⟩ :: below, objs, inp, fuel, out, S.fin⟩ ∧ Mc.mu p ⟨⟨f.m, q, loc, stk⟩ :: below, objs, inp, fuel, out, S.fin⟩ < S.mu p := by
  have hm : Mc.mu p ⟨⟨f.m, q, loc, stk⟩ :: below, objs, inp, fuel, out, S.fin⟩ < S.mu p := by
    unfold Mc.mu
    rw [hf]
    simp only [List.map_cons, List.sum_cons]
    omega
  refine ⟨⟨fun f' b' e => ?_, fun _ => by simp, ho, hi, hu, by have := h.ok.fuel; show fuel ≤ _; omega, ?_⟩, hm⟩
  · injection e with e1 e2
    subst e1 e2
    exact ⟨hq, ((h.ok.top f below hf).2).mono hl⟩
  · have := h.ok.room
    have e : S.frs.length = below.length + 1 := by rw [hf]; rfl
    show objs.length + out.length + (below.length + 1) + _ ≤ 300000
    omega
theorem Mc.Ok.step {p : Prg} {ss : List Lk} {S : Mc} (h : S.Ok p ss) (v : Vf p ss) : (S.step p).Ok p ss ∧ (S.fin = none → (S.step p).fin = none → (S.step p).mu p < S.mu p) := by
  by_cases hfin0 : S.fin ≠ none
  · rw [Mc.step_end hfin0]
    exact ⟨h, fun e => absurd e hfin0⟩
  have hfin : S.fin = none := Decidable.not_not.1 hfin0
  obtain ⟨f, below, hf⟩ := List.exists_cons_of_ne_nil (h.live hfin)
  obtain ⟨t, a⟩ := h.at_ v.ok v.look v.bd hf
  rw [Mc.step_on hfin hf]
  have hpc := a.fr.pc
  have hfr := h.top f below hf
  unfold Mc.stepF
  simp only
  generalize hx : p.at_ f.m f.pc = x at a
  by_cases h1 : x.op = 22 ∨ x.op = 23
  · rw [if_pos h1]
    have hj := a.ins.jmp h1
    split
    · rename_i h2
      have he : effL p (p.ms.getD f.m default) x = some ([73], []) := by unfold effL; simp [h2.1, lI]
      obtain ⟨e1, e2, e3⟩ := a.eff (by omega) (by omega) (by omega) he
      simp only [List.length_singleton, List.append_nil] at e1 e2 e3
      have := a.keep (loc := f.loc) (stk := cutV f.stk 1) (objs := S.objs) (inp := S.inp) (out := S.out) (fuel := S.fuel) hf (a.to_ (a.one (by omega) (by omega)) (by omega) (q := f.pc + 1) (by omega) rfl (by rw [kds_cut, e3]) a.fr.lv (fun v hv => a.fr.sv v (cut_mem hv))) h.objs (Nat.le_refl _) (by omega) h.inp h.out (Nat.le_refl _) (by unfold Fm.mu; simp only; omega)
      exact ⟨this.1, fun _ _ => this.2⟩
    · rename_i h2
      split
      · exact ⟨a.stop _ _, fun _ e => by cases e⟩
      · rename_i h3
        have hst : kds (if x.op = 23 then cutV f.stk 1 else f.stk) = t := by
          rcases h1 with h1 | h1
          · have he : effL p (p.ms.getD f.m default) x = some ([], []) := by unfold effL; simp [h1]
            obtain ⟨e1, e2, e3⟩ := a.eff (by omega) (by omega) (by omega) he
            rw [if_neg (by omega), e3, List.append_nil]
            exact (cut_all _ _ (kds_len _)).symm
          · have he : effL p (p.ms.getD f.m default) x = some ([73], []) := by unfold effL; simp [h1, lI]
            obtain ⟨e1, e2, e3⟩ := a.eff (by omega) (by omega) (by omega) he
            simp only [List.length_singleton, List.append_nil] at e1 e2 e3
            rw [if_pos h1, kds_cut, e3]
        have hsv : ∀ v ∈ (if x.op = 23 then cutV f.stk 1 else f.stk), v.Ok S.objs.length := by
          intro v hv
          split at hv
          · exact a.fr.sv v (cut_mem hv)
          · exact a.fr.sv v hv
        have := a.keep (loc := f.loc) (stk := if x.op = 23 then cutV f.stk 1 else f.stk) (objs := S.objs) (inp := S.inp) (out := S.out) (fuel := if x.a ≤ f.pc then S.fuel - 1 else S.fuel) hf (a.to_ (a.jmp h1) hj.1 (q := x.a.toNat) (by omega) rfl hst a.fr.lv hsv) h.objs (Nat.le_refl _) (by omega) h.inp h.out (by split <;> omega) (by
          unfold Fm.mu
          simp only
          have hh := v.ok.meth f.m a.fr.m
          have hc : (p.ms.getD f.m default).code.length ≤ 120 := by
            unfold headCode at hh
            split at hh
            · cases hh
            · omega
          split
          · rename_i h4
            have : S.fuel ≠ 0 := fun e => h3 ⟨h4, e⟩
            omega
          · omega)
        exact ⟨this.1, fun _ _ => this.2⟩
  rw [if_neg h1]
  by_cases h2 : x.op = 32
  · rw [if_pos h2]
    split
    · exact ⟨a.stop _ _, fun _ e => by cases e⟩
    · rename_i h3
      have hc := a.ins.call h2
      have hm : x.a.toNat < p.ms.length := by omega
      have he : effL p (p.ms.getD f.m default) x = some ((p.ms.getD x.a.toNat default).params.toList, (p.ms.getD x.a.toNat default).ret.toList) := by
        unfold effL
        simp only [h2]
        simp only [show ((0 : Int) ≤ x.a ∧ x.a < p.ms.length) = True by simp; omega]
        simp
      have hb := behL_eff a.beh (by omega) (by omega) (by omega) he
      rw [kds_len] at hb
      have hsz := size_list (p.ms.getD x.a.toNat default).params
      have hargs : kds (f.stk.drop (f.stk.length - (p.ms.getD x.a.toNat default).params.size)) = (p.ms.getD x.a.toNat default).params.toList := by
        have := hb.2.1
        rw [hsz]
        conv => rhs; rw [← this]
        unfold kds
        rw [List.map_drop]
      have he := enter_ok (n := S.objs.length) v hm hargs (fun u hu => a.fr.sv u (List.mem_of_mem_drop hu))
      have hle := a.one (by omega) (by omega)
      have hto := a.to_ (loc := f.loc) (stk := cutV f.stk (p.ms.getD x.a.toNat default).params.size) (n := S.objs.length) hle (by omega) (q := f.pc + 1) (by omega) rfl
      have hme := v.ok.meth x.a.toNat hm
      have hcl : (p.ms.getD x.a.toNat default).code.length ≤ 120 := by
        unfold headCode at hme
        split at hme
        · cases hme
        · omega
      have hmu : Mc.mu p { S with frs := p.enter x.a.toNat (f.stk.drop (f.stk.length - (p.ms.getD x.a.toNat default).params.size)) :: { f with stk := cutV f.stk (p.ms.getD x.a.toNat default).params.size, pc := f.pc + 1 } :: below, fuel := S.fuel - 1 } < S.mu p := by
        unfold Mc.mu
        rw [hf]
        simp only [List.map_cons, List.sum_cons, Fm.mu, Prg.enter]
        omega
      refine ⟨⟨fun f' b' e => ?_, fun _ => by simp, h.objs, h.inp, h.out, by have := h.fuel; show S.fuel - 1 ≤ 2000; omega, ?_⟩, fun _ _ => hmu⟩
      · injection e with e1 e2
        subst e1 e2
        refine ⟨he, ?_, hfr.2⟩
        obtain ⟨n1, n2, n3⟩ := a.next _ hle
        have e4 : ((f.pc : Int) + 1).toNat = f.pc + 1 := by omega
        rw [e4] at n2 n3
        refine ⟨a.fr.m, by show f.pc + 1 < (p.ms.getD f.m default).code.length; omega, n2, ?_, a.fr.loc, a.fr.lv, fun u hu => a.fr.sv u (cut_mem hu)⟩
        show (ss.getD f.m default).stk.getD (f.pc + 1) [] = kds (cutV f.stk _) ++ (p.ms.getD x.a.toNat default).ret.toList
        rw [n3, hb.2.2, kds_cut, hsz]
      · have := h.room
        have e : S.frs.length = below.length + 1 := by rw [hf]; rfl
        show S.objs.length + S.out.length + (below.length + 1 + 1) + _ ≤ 300000
        omega
  rw [if_neg h2]
  by_cases h3 : x.op = 33
  · rw [if_pos h3]
    cases below with
    | nil =>
      refine ⟨⟨fun f' b' e => (by cases e), fun e => (by cases e), h.objs, h.inp, h.out, h.fuel, ?_⟩, fun _ e => by cases e⟩
      have := h.room
      show S.objs.length + S.out.length + 0 + (123 * S.fuel + 0) ≤ 300000
      unfold Mc.mu at this
      omega
    | cons g under =>
      have hg := hfr.2
      have he : effL p (p.ms.getD f.m default) x = some ((p.ms.getD f.m default).ret.toList, []) := by unfold effL; simp [h3]
      have hb := behL_eff a.beh (by omega) (by omega) (by omega) he
      have ht := behL_ret a.beh h3
      rw [kds_len] at hb
      have hret : kds f.stk = (p.ms.getD f.m default).ret.toList := by
        have h5 := hb.2.2
        rw [ht, List.append_nil] at h5
        have h6 := congrArg List.length h5
        simp only [List.length_nil, List.length_take, kds_len] at h6
        have h7 := hb.2.1
        rwa [show f.stk.length - (p.ms.getD f.m default).ret.toList.length = 0 by omega, List.drop_zero] at h7
      have hmu : Mc.mu p (S.put under { g with stk := g.stk ++ f.stk }) < S.mu p := by
        unfold Mc.mu Mc.put
        rw [hf]
        simp only [List.map_cons, List.sum_cons, Fm.mu]
        omega
      refine ⟨⟨fun f' b' e => ?_, fun _ => by simp [Mc.put], h.objs, h.inp, h.out, h.fuel, ?_⟩, fun _ _ => hmu⟩
      · injection e with e1 e2
        subst e1 e2
        refine ⟨⟨hg.1.m, hg.1.pc, hg.1.seen, ?_, hg.1.loc, hg.1.lv, fun u hu => ?_⟩, hg.2⟩
        · show _ = kds (g.stk ++ f.stk)
          rw [kds_app, hret]
          exact hg.1.stk
        · rcases List.mem_append.1 hu with h8 | h8
          · exact hg.1.sv u h8
          · exact a.fr.sv u h8
      · have := h.room
        have e : S.frs.length = under.length + 1 + 1 := by rw [hf]; rfl
        show S.objs.length + S.out.length + (under.length + 1) + Mc.mu p (S.put under { g with stk := g.stk ++ f.stk }) ≤ 300000
        omega
  rw [if_neg h3]
  have hp := a.plain v.ok (by omega) (by omega) h2 h3
  cases hact : S.plain p f x with
  | trap c => exact ⟨a.stop _ _, fun _ e => by cases e⟩
  | go loc stk objs inp out =>
    rw [hact] at hp
    obtain ⟨e1, e2, e3, e4, e5, e6, e7, e8, e9⟩ := hp
    have := a.keep (loc := loc) (stk := stk) (objs := objs) (inp := inp) (out := out) (fuel := S.fuel) hf (a.to_ (a.one h3 (by omega)) (by omega) (q := f.pc + 1) (by omega) e1 e2 e3 e4) e5 e6 e7 e8 e9 (Nat.le_refl _) (by unfold Fm.mu; simp only; omega)
    exact ⟨this.1, fun _ _ => this.2⟩
end Go.Proofs.YtojobkhidlfeoaaGreatDoor

/-! What a program means, plain: whole runs; more fuel, more inputs; where a run may end. -/
namespace Go.Proofs.YtojobkhidlfeoaaGreatDoor

/-- All that is left is done. -/
def Mc.run (p : Prg) (S : Mc) : Mc := Mc.steps p (S.mu p + 1) S
theorem steps_add (p : Prg) : ∀ (a b : Nat) (S : Mc), Mc.steps p (a + b) S = Mc.steps p b (Mc.steps p a S)
  | 0, b, S => by rw [Nat.zero_add]; rfl
  | a + 1, b, S => by
    rw [show a + 1 + b = (a + b) + 1 by omega]
    exact steps_add p a b (S.step p)
theorem steps_one (p : Prg) (k : Nat) (S : Mc) : Mc.steps p (k + 1) S = (Mc.steps p k S).step p := steps_add p k 1 S
theorem steps_fin {p : Prg} {S : Mc} (h : S.fin ≠ none) : ∀ k, Mc.steps p k S = S
  | 0 => rfl
  | k + 1 => by
    show Mc.steps p k (S.step p) = S
    rw [Mc.step_end h]
    exact steps_fin h k
theorem Mc.Ok.steps {p : Prg} {ss : List Lk} (v : Vf p ss) : ∀ (k : Nat) {S : Mc}, S.Ok p ss → (Mc.steps p k S).Ok p ss
  | 0, _, h => h
  | k + 1, _, h => Mc.Ok.steps v k (h.step v).1
theorem Mc.Ok.ends {p : Prg} {ss : List Lk} (v : Vf p ss) : ∀ (k : Nat) {S : Mc}, S.Ok p ss → S.mu p < k → (Mc.steps p k S).fin ≠ none
  | 0, _, _, hk => absurd hk (Nat.not_lt_zero _)
  | k + 1, S, h, hk => by
    show (Mc.steps p k (S.step p)).fin ≠ none
    by_cases hf : (S.step p).fin = none
    · have hf0 : S.fin = none := Decidable.byContradiction fun e => by rw [Mc.step_end e] at hf; exact e hf
      exact Mc.Ok.ends v k (h.step v).1 (by have := (h.step v).2 hf0 hf; omega)
    · rw [steps_fin hf]
      exact hf
theorem Mc.Ok.run_fin {p : Prg} {ss : List Lk} {S : Mc} (h : S.Ok p ss) (v : Vf p ss) : (S.run p).fin ≠ none := h.ends v _ (Nat.lt_succ_self _)
theorem Mc.Ok.run_ok {p : Prg} {ss : List Lk} {S : Mc} (h : S.Ok p ss) (v : Vf p ss) : (S.run p).Ok p ss := h.steps v _
/-- What has ended is the run's end. -/
theorem Mc.Ok.run_is {p : Prg} {ss : List Lk} {S : Mc} (h : S.Ok p ss) (v : Vf p ss) {k : Nat} (hk : (Mc.steps p k S).fin ≠ none) : Mc.steps p k S = S.run p := by
  have h1 : Mc.steps p (k + (S.mu p + 1)) S = Mc.steps p k S := by rw [steps_add, steps_fin hk]
  have h2 : Mc.steps p (S.mu p + 1 + k) S = S.run p := by
    rw [steps_add]
    exact steps_fin (h.run_fin v) k
  rw [← h1, Nat.add_comm, h2]
theorem Mc.Ok.run_step {p : Prg} {ss : List Lk} {S : Mc} (h : S.Ok p ss) (v : Vf p ss) : (S.step p).run p = S.run p := by
  have h1 := (h.step v).1.run_fin v
  have h2 : Mc.steps p ((S.step p).mu p + 1 + 1) S = (S.step p).run p := rfl
  rw [← h2]
  exact h.run_is v (by rw [h2]; exact h1)
theorem Mc.Ok.new {p : Prg} {ss : List Lk} (v : Vf p ss) {inp : List Int} {fuel : Nat} (hi : ∀ x ∈ inp, in64 x) (hf : fuel ≤ 2000) : (Mc.new p inp fuel).Ok p ss := by
  have h0 : 0 < p.ms.length := v.ok.one
  have h1 := v.ok.meth 0 h0
  have hc : (p.ms.getD 0 default).code.length ≤ 120 ∧ (p.ms.getD 0 default).params.toList = [] := by
    unfold headCode at h1
    split at h1
    · cases h1
    · split at h1
      · cases h1
      · rename_i h2 h3
        refine ⟨by omega, Decidable.byContradiction fun e => h3 (.inr (.inr (.inr ⟨rfl, .inl e⟩)))⟩
  refine ⟨fun f below e => ?_, fun _ => by simp [Mc.new], by simp [Mc.new], hi, by simp [Mc.new], hf, ?_⟩
  · injection e with e1 e2
    subst e1 e2
    exact ⟨enter_ok v h0 (by rw [hc.2]; rfl) (by simp), trivial⟩
  · show 0 + 0 + 1 + (123 * fuel + (List.map (Fm.mu p) [p.enter 0 []]).sum) ≤ 300000
    simp only [List.map_cons, List.map_nil, List.sum_cons, List.sum_nil]
    unfold Fm.mu Prg.enter
    simp only
    omega

/-- Inputs and output are passed on. -/
def Mact.io (inp out : List Int) : Mact → Mact
  | .trap t => .trap t
  | .go loc stk objs _ _ => .go loc stk objs inp out
theorem ite_io {c : Prop} [Decidable c] {a b : Mact} {i o : List Int} : Mact.io i o (if c then a else b) = if c then Mact.io i o a else Mact.io i o b := by
  split <;> rfl
theorem touch_io (S : Mc) (f : Fm) (x : Ins) (i o : List Int) : Mc.touch { S with inp := i, out := o } f x = Mact.io i o (S.touch f x) := by
  unfold Mc.touch
  simp only [ite_io]
  rfl
theorem plain_io (p : Prg) (S : Mc) (f : Fm) (x : Ins) (i o : List Int) (h34 : x.op ≠ 34) (h35 : x.op ≠ 35) : Mc.plain p { S with inp := i, out := o } f x = Mact.io i o (S.plain p f x) := by
  unfold Mc.plain
  simp only [ite_io, if_neg h34, if_neg h35, touch_io]
  rfl
theorem touch_same (S : Mc) (f : Fm) (x : Ins) : (∃ t, S.touch f x = .trap t) ∨ ∃ l k o, S.touch f x = .go l k o S.inp S.out := by
  have h := touch_io S f x S.inp S.out
  cases ha : S.touch f x with
  | trap t => exact .inl ⟨t, rfl⟩
  | go l k o i u =>
    have e : Mc.touch { S with inp := S.inp, out := S.out } f x = S.touch f x := rfl
    rw [e, ha] at h
    injection h with _ _ _ h1 h2
    exact .inr ⟨l, k, o, by rw [h1, h2]⟩
theorem plain_same (p : Prg) (S : Mc) (f : Fm) (x : Ins) (h34 : x.op ≠ 34) (h35 : x.op ≠ 35) : (∃ t, S.plain p f x = .trap t) ∨ ∃ l k o, S.plain p f x = .go l k o S.inp S.out := by
  have h := plain_io p S f x S.inp S.out h34 h35
  cases ha : S.plain p f x with
  | trap t => exact .inl ⟨t, rfl⟩
  | go l k o i u =>
    have e : Mc.plain p { S with inp := S.inp, out := S.out } f x = S.plain p f x := rfl
    rw [e, ha] at h
    injection h with _ _ _ h1 h2
    exact .inr ⟨l, k, o, by rw [h1, h2]⟩
theorem plain_34 (p : Prg) (S : Mc) (f : Fm) (x : Ins) (h : x.op = 34) : S.plain p f x = (match S.inp with | [] => .trap 6 | n :: r => .go f.loc (f.stk ++ [vi n]) S.objs r S.out) := by
  unfold Mc.plain
  simp only [h]
  rfl
theorem plain_35 (p : Prg) (S : Mc) (f : Fm) (x : Ins) (h : x.op = 35) : S.plain p f x = .go f.loc (cutV f.stk 1) S.objs S.inp (S.out ++ [(tp f.stk 0).n]) := by
  unfold Mc.plain
  simp [h]

/-- What was put out stays. -/
theorem plain_out {p : Prg} {S : Mc} {f : Fm} {x : Ins} {loc stk : List Vl} {objs : List Ob} {inp out : List Int} (h : S.plain p f x = .go loc stk objs inp out) : ∃ l, out = S.out ++ l := by
  by_cases h34 : x.op = 34
  · rw [plain_34 p S f x h34] at h
    split at h
    · cases h
    · cases h; exact ⟨[], by simp⟩
  · by_cases h35 : x.op = 35
    · rw [plain_35 p S f x h35] at h
      cases h
      exact ⟨_, rfl⟩
    · rcases plain_same p S f x h34 h35 with ⟨t, e⟩ | ⟨l, k, o, e⟩
      · rw [e] at h; cases h
      · rw [e] at h
        cases h
        exact ⟨[], by simp⟩
theorem stepF_out {p : Prg} (S : Mc) (below : List Fm) (f : Fm) : ∃ l, (S.stepF p below f).out = S.out ++ l := by
  have keep : ∃ l, S.out = S.out ++ l := ⟨[], by simp⟩
  unfold Mc.stepF
  simp only
  split
  · split
    · exact keep
    · split
      · exact keep
      · exact keep
  · split
    · split
      · exact keep
      · exact keep
    · split
      · split
        · exact keep
        · exact keep
      · split
        · exact keep
        · rename_i loc stk objs inp out ha
          exact plain_out ha
theorem step_out {p : Prg} (S : Mc) : ∃ l, (S.step p).out = S.out ++ l := by
  unfold Mc.step
  split
  · exact stepF_out S _ _
  · exact ⟨[], by simp⟩
theorem steps_out {p : Prg} : ∀ (k : Nat) (S : Mc), ∃ l, (Mc.steps p k S).out = S.out ++ l
  | 0, S => ⟨[], by simp [Mc.steps]⟩
  | k + 1, S => by
    obtain ⟨l, h⟩ := step_out (p := p) S
    obtain ⟨m, h2⟩ := steps_out k (S.step p)
    exact ⟨l ++ m, by show (Mc.steps p k (S.step p)).out = _; rw [h2, h, List.append_assoc]⟩

/-- More fuel: the same step, or the end for want of fuel. -/
def Mc.fuelled (S : Mc) (k : Nat) : Mc := { S with fuel := S.fuel + k }
theorem step_fuel {p : Prg} (S : Mc) (k : Nat) : (S.fuelled k).step p = (S.step p).fuelled k ∨ ∃ f below, S.fin = none ∧ S.frs = f :: below ∧ S.step p = S.stop 3 0 f := by
  by_cases hfin : S.fin = none
  · cases hf : S.frs with
    | nil =>
      left
      have e : ∀ T : Mc, T.frs = [] → T.step p = T := fun T hT => by
        unfold Mc.step
        rw [hT]
        split
        · rename_i h1; cases h1
        · rfl
      rw [e S hf, e (S.fuelled k) hf]
    | cons f below =>
      rw [Mc.step_on hfin hf, Mc.step_on (S := S.fuelled k) hfin hf]
      unfold Mc.stepF
      simp only
      have e : (S.fuelled k).plain p f (p.at_ f.m f.pc) = S.plain p f (p.at_ f.m f.pc) := rfl
      rw [e]
      split
      · split
        · left; rfl
        · by_cases h3 : (p.at_ f.m f.pc).a ≤ f.pc ∧ S.fuel = 0
          · right
            rw [if_pos h3]
            exact ⟨f, below, hfin, rfl, rfl⟩
          · left
            rw [if_neg h3, if_neg]
            · unfold Mc.fuelled Mc.put
              simp only
              congr 1
              by_cases h4 : (p.at_ f.m f.pc).a ≤ f.pc
              · have : S.fuel ≠ 0 := fun e => h3 ⟨h4, e⟩
                rw [if_pos h4, if_pos h4]
                omega
              · rw [if_neg h4, if_neg h4]
            · rintro ⟨h4, h5⟩
              have : S.fuel + k = 0 := h5
              exact h3 ⟨h4, by omega⟩
      · split
        · by_cases h3 : S.fuel = 0
          · right
            rw [if_pos h3]
            exact ⟨f, below, hfin, rfl, rfl⟩
          · left
            rw [if_neg h3, if_neg]
            · unfold Mc.fuelled
              simp only
              congr 1
              omega
            · intro h4
              have : S.fuel + k = 0 := h4
              omega
        · split
          · left
            split <;> rfl
          · left
            split <;> rfl
  · left
    rw [Mc.step_end hfin, Mc.step_end (S := S.fuelled k) hfin]
/-- A run with more fuel. -/
theorem run_fuel {p : Prg} {ss : List Lk} (v : Vf p ss) (k : Nat) : ∀ (n : Nat) {S : Mc}, S.Ok p ss → (S.fuelled k).Ok p ss → S.mu p < n →
    (S.fuelled k).run p = (S.run p).fuelled k ∨ (∃ m : Nat, m < p.ms.length ∧ ∃ pc : Nat, (S.run p).fin = some ⟨3, 0, m, pc, 0⟩) ∧ ∃ l, ((S.fuelled k).run p).out = (S.run p).out ++ l
  | 0, _, _, _, hn => absurd hn (Nat.not_lt_zero _)
  | n + 1, S, h, h2, hn => by
    by_cases hfin : S.fin = none
    · rw [← h.run_step v, ← h2.run_step v]
      have hs := h.step v
      rcases step_fuel (p := p) S k with e | ⟨f, below, _, hf, e⟩
      · rw [e]
        by_cases hf2 : (S.step p).fin = none
        · exact run_fuel v k n hs.1 (by rw [← e]; exact (h2.step v).1) (by have := hs.2 hfin hf2; omega)
        · left
          have e1 : (S.step p).run p = S.step p := steps_fin hf2 _
          have e2 : ((S.step p).fuelled k).run p = (S.step p).fuelled k := steps_fin (S := (S.step p).fuelled k) hf2 _
          rw [e1, e2]
      · right
        have hm := (h.top f below hf).1.m
        have e1 : (S.step p).run p = S.step p := steps_fin (by rw [e]; intro e; cases e) _
        rw [e1, e]
        refine ⟨⟨f.m, hm, f.pc, rfl⟩, ?_⟩
        obtain ⟨l, hl⟩ := step_out (p := p) (S.fuelled k)
        obtain ⟨m, hm2⟩ := steps_out (p := p) (((S.fuelled k).step p).mu p + 1) ((S.fuelled k).step p)
        exact ⟨l ++ m, by show (Mc.steps p _ _).out = S.out ++ _; rw [hm2, hl, List.append_assoc]; rfl⟩
    · left
      have e1 : S.run p = S := steps_fin hfin _
      have e2 : (S.fuelled k).run p = S.fuelled k := steps_fin (S := S.fuelled k) hfin _
      rw [e1, e2]
end Go.Proofs.YtojobkhidlfeoaaGreatDoor

/-! What a program means, plain: no stack of a verified program is long. -/
namespace Go.Proofs.YtojobkhidlfeoaaGreatDoor

theorem atB_len (l : List UInt8) (i : Int) : (atB l i).length ≤ 1 := by
  unfold atB
  split <;> simp
theorem fieldL_len (cs : List ByteArray) (a b : Int) : (fieldL cs a b).length ≤ 1 := by
  unfold fieldL
  split
  · exact atB_len _ _
  · simp
theorem Prg.Ok.head {p : Prg} (hp : p.Ok) {j : Nat} (hj : j < p.ms.length) : (p.ms.getD j default).params.size ≤ 12 ∧ (p.ms.getD j default).ret.size ≤ 1 := by
  have h1 := hp.meth j hj
  unfold headCode at h1
  split at h1
  · cases h1
  · rename_i h2
    split at h1
    · cases h1
    · rename_i h3
      have h4 : retOk (p.ms.getD j default).ret := Decidable.byContradiction fun h => h3 (.inr (.inr (.inl h)))
      refine ⟨by omega, ?_⟩
      rw [size_list]
      unfold retOk at h4
      rcases h4 with h4 | h4 | h4 <;> rw [h4] <;> simp
def Short (o : Option (List UInt8 × List UInt8)) : Prop := ∀ pop push, o = some (pop, push) → pop.length ≤ 12
theorem short_some {a b : List UInt8} (h : a.length ≤ 12) : Short (some (a, b)) := fun pop push e => by
  injection e with e
  injection e with e _
  rw [← e]
  exact h
theorem short_none : Short none := fun _ _ e => by cases e
theorem short_if {c : Prop} [Decidable c] {a b : Option (List UInt8 × List UInt8)} (ha : c → Short a) (hb : Short b) : Short (if c then a else b) := by
  by_cases hc : c
  · rw [if_pos hc]; exact ha hc
  · rw [if_neg hc]; exact hb
theorem effL_len {p : Prg} {x : Ins} (hp : p.Ok) {j : Nat} (hj : j < p.ms.length) {pop push : List UInt8} (h : effL p (p.ms.getD j default) x = some (pop, push)) : pop.length ≤ 12 := by
  have h1 := hp.head hj
  have s1 := atB_len (kindsL (p.ms.getD j default)) x.a
  have s2 := fieldL_len p.cs x.a x.b
  have s3 := atB_len [lI, lR] x.a
  have hs : Short (effL p (p.ms.getD j default) x) := by
    unfold effL
    refine short_if (fun _ => short_some (by simp)) ?_
    refine short_if (fun _ => short_some (by simp)) ?_
    refine short_if (fun _ => short_some (by simp)) ?_
    refine short_if (fun _ => short_some (by simp)) ?_
    refine short_if (fun _ => short_some (by omega)) ?_
    refine short_if (fun _ => short_some (by simp)) ?_
    refine short_if (fun _ => short_some (by simp)) ?_
    refine short_if (fun _ => short_some (by simp)) ?_
    refine short_if (fun _ => short_some (by simp)) ?_
    refine short_if (fun _ => short_some (by simp)) ?_
    refine short_if (fun _ => short_some (by rw [List.length_cons]; omega)) ?_
    refine short_if (fun _ => short_some (by simp)) ?_
    refine short_if (fun _ => short_some (by simp)) ?_
    refine short_if (fun _ => short_some (by simp)) ?_
    refine short_if (fun _ => short_some (by rw [List.length_append]; simp only [List.length_cons, List.length_nil]; omega)) ?_
    refine short_if (fun _ => short_if (fun hx => short_some ?_) (short_some (by simp))) ?_
    · have h2 := (hp.head (j := x.a.toNat) (by omega)).1
      rw [← size_list]
      exact h2
    refine short_if (fun _ => short_some (by rw [← size_list]; omega)) short_none
  exact hs _ _ h
theorem out_len {x : Ins} {t u : List UInt8} (h : (if 12 < u.length ∨ x.op = 33 ∧ u ≠ [] then (.error 108 : Except Int (List UInt8)) else .ok u) = .ok t) : u.length ≤ 12 := by
  split at h
  · cases h
  · rename_i h2
    omega
theorem behL_len {p : Prg} {x : Ins} (hp : p.Ok) {j : Nat} (hj : j < p.ms.length) {s t : List UInt8} (h : behL p (p.ms.getD j default) x s = .ok t) : s.length ≤ 100 := by
  unfold behL at h
  simp only at h
  split at h
  · split at h
    · cases h
    · have := out_len h
      rw [List.length_append] at this
      omega
  split at h
  · split at h
    · cases h
    · have := out_len h
      rw [List.length_take] at this
      omega
  split at h
  · split at h
    · cases h
    · have := out_len h
      rw [List.length_append, List.length_append, List.length_take] at this
      omega
  split at h
  · rename_i pop push he
    have := effL_len hp hj he
    split at h
    · cases h
    split at h
    · cases h
    · have := out_len h
      rw [List.length_append, List.length_take] at this
      omega
  · have := out_len h
    omega
theorem Fm.Ok.len {p : Prg} {ss : List Lk} (v : Vf p ss) {n : Nat} {f : Fm} {t : List UInt8} (h : f.Ok p ss n t) : t.length ≤ 100 := by
  have hg := look_good (by have := h.pc; omega) (v.look.look f.m h.m)
  obtain ⟨u, h1, _⟩ := hg.1.all f.pc (hg.2.2 f.pc h.seen)
  rw [h.stk] at h1
  exact behL_len v.ok h.m h1
theorem Under.len {p : Prg} {ss : List Lk} (v : Vf p ss) {n : Nat} : ∀ {fs : List Fm} {m : Nat}, Under p ss n fs m → ∀ g ∈ fs, g.stk.length ≤ 100
  | [], _, _, g, hg => by cases hg
  | f :: fs, _, h, g, hg => by
    rcases List.mem_cons.1 hg with rfl | hg
    · have := h.1.len v
      rw [List.length_append, kds_len] at this
      omega
    · exact Under.len v h.2 g hg
/-- No stack is long. -/
theorem Mc.Ok.len {p : Prg} {ss : List Lk} (v : Vf p ss) {S : Mc} (h : S.Ok p ss) : ∀ g ∈ S.frs, g.stk.length ≤ 100 := by
  cases hf : S.frs with
  | nil => intro g hg; cases hg
  | cons f below =>
    obtain ⟨h1, h2⟩ := h.top f below hf
    intro g hg
    rcases List.mem_cons.1 hg with rfl | hg
    · have := h1.len v
      rw [kds_len] at this
      exact this
    · exact h2.len v g hg
end Go.Proofs.YtojobkhidlfeoaaGreatDoor
