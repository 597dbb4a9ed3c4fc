/- What a program means, plain: a verified program's machine is well formed, whatever it does. -/
import Derived.Test.YtojobkhidlfeoaaGreatDoorMdL
import Derived.Test.YtojobkhidlfeoaaGreatDoorVerL5
namespace Go.Proofs.YtojobkhidlfeoaaGreatDoor

/-- What the verifier knows of each method. -/
structure Looks (p : Prg) (ss : List Lk) : Prop where
  len : ss.length = p.ms.length
  look : ∀ j, j < p.ms.length → lookM p (p.ms.getD j default) = .ok (ss.getD j default)

def kd (v : Vl) : UInt8 := if v.ref then 82 else 73
def kds (l : List Vl) : List UInt8 := l.map kd
def in64 (n : Int) : Prop := -9223372036854775808 ≤ n ∧ n ≤ 9223372036854775807
/-- A value that may be. -/
def Vl.Ok (n : Nat) (v : Vl) : Prop := (v.ref = true → -1 ≤ v.n ∧ v.n < n) ∧ in64 v.n
structure Ob.Ok (p : Prg) (n : Nat) (o : Ob) : Prop where
  lo : -2 ≤ o.cls
  hi : o.cls < p.cs.length
  kinds : kds o.vals = p.lets o.cls o.vals.length
  len : o.vals.length ≤ 50
  vals : ∀ v ∈ o.vals, v.Ok n
structure Fm.Ok (p : Prg) (ss : List Lk) (n : Nat) (f : Fm) (t : List UInt8) : Prop where
  m : f.m < p.ms.length
  pc : f.pc < (p.ms.getD f.m default).code.length
  seen : (ss.getD f.m default).seen.getD f.pc false = true
  stk : (ss.getD f.m default).stk.getD f.pc [] = t
  loc : kds f.loc = kindsL (p.ms.getD f.m default)
  lv : ∀ v ∈ f.loc, v.Ok n
  sv : ∀ v ∈ f.stk, v.Ok n
/-- The frames below one of a method. -/
def Under (p : Prg) (ss : List Lk) (n : Nat) : List Fm → Nat → Prop
  | [], _ => True
  | g :: below, m => g.Ok p ss n (kds g.stk ++ (p.ms.getD m default).ret.toList) ∧ Under p ss n below g.m
/-- What is left to be done, at most. -/
def Fm.mu (p : Prg) (f : Fm) : Nat := (p.ms.getD f.m default).code.length + 1 - f.pc
def Mc.mu (p : Prg) (S : Mc) : Nat := 123 * S.fuel + (S.frs.map (Fm.mu p)).sum
structure Mc.Ok (p : Prg) (ss : List Lk) (S : Mc) : Prop where
  top : ∀ f below, S.frs = f :: below → f.Ok p ss S.objs.length (kds f.stk) ∧ Under p ss S.objs.length below f.m
  live : S.fin = none → S.frs ≠ []
  objs : ∀ o ∈ S.objs, o.Ok p S.objs.length
  inp : ∀ x ∈ S.inp, in64 x
  out : ∀ x ∈ S.out, in64 x
  fuel : S.fuel ≤ 2000
  room : S.objs.length + S.out.length + S.frs.length + S.mu p ≤ 300000

theorem Vl.Ok.mono {n n' : Nat} {v : Vl} (h : v.Ok n) (hn : n ≤ n') : v.Ok n' := ⟨fun hr => ⟨(h.1 hr).1, by have := (h.1 hr).2; omega⟩, h.2⟩
theorem Ob.Ok.mono {p : Prg} {n n' : Nat} {o : Ob} (h : o.Ok p n) (hn : n ≤ n') : o.Ok p n' := ⟨h.lo, h.hi, h.kinds, h.len, fun v hv => (h.vals v hv).mono hn⟩
theorem Fm.Ok.mono {p : Prg} {ss : List Lk} {n n' : Nat} {f : Fm} {t : List UInt8} (h : f.Ok p ss n t) (hn : n ≤ n') : f.Ok p ss n' t := ⟨h.m, h.pc, h.seen, h.stk, h.loc, fun v hv => (h.lv v hv).mono hn, fun v hv => (h.sv v hv).mono hn⟩
theorem Under.mono {p : Prg} {ss : List Lk} {n n' : Nat} (hn : n ≤ n') : ∀ {fs : List Fm} {m : Nat}, Under p ss n fs m → Under p ss n' fs m
  | [], _, _ => trivial
  | _ :: _, _, h => ⟨h.1.mono hn, Under.mono hn h.2⟩
theorem kds_len (l : List Vl) : (kds l).length = l.length := by simp [kds]
theorem kds_app (a b : List Vl) : kds (a ++ b) = kds a ++ kds b := by simp [kds]
theorem kds_cut (l : List Vl) (k : Nat) : kds (cutV l k) = (kds l).take (l.length - k) := by simp [kds, cutV, List.map_take]
theorem kds_set {l : List Vl} {i : Nat} {v : Vl} (h : i < l.length → kd v = (kds l).getD i 0) : kds (l.set i v) = kds l := by
  apply List.ext_getElem
  · simp [kds]
  · intro j h1 h2
    simp only [kds, List.getElem_map, List.getElem_set]
    split
    · rename_i e
      subst e
      have h3 : i < l.length := by simpa [kds] using h2
      rw [h h3]
      simp [kds, List.getD_eq_getElem?_getD, List.getElem?_map, List.getElem?_eq_getElem h3]
    · rfl
theorem kd_getD {l : List Vl} {i : Nat} (h : i < l.length) : kd (l.getD i default) = (kds l).getD i 0 := by
  simp [kds, List.getD_eq_getElem?_getD, List.getElem?_map, List.getElem?_eq_getElem h]
/-- The kinds on top. -/
theorem tp_kd {l : List Vl} {pop : List UInt8} {i : Nat} (h : (kds l).drop (l.length - pop.length) = pop) (hl : pop.length ≤ l.length) (hi : i < pop.length) : kd (tp l i) = pop.getD (pop.length - 1 - i) 0 := by
  unfold tp
  rw [kd_getD (by omega)]
  have h2 : pop.getD (pop.length - 1 - i) 0 = ((kds l).drop (l.length - pop.length)).getD (pop.length - 1 - i) 0 := by rw [h]
  rw [h2, List.getD_eq_getElem?_getD, List.getD_eq_getElem?_getD, List.getElem?_drop]
  congr 2
  omega
theorem tp_mem {l : List Vl} {i : Nat} (h : i < l.length) : tp l i ∈ l := by
  unfold tp
  rw [List.getD_eq_getElem?_getD, List.getElem?_eq_getElem (by omega)]
  exact List.getElem_mem _
theorem getD_mem {α : Type} [Inhabited α] {l : List α} {i : Nat} (h : i < l.length) : l.getD i default ∈ l := by
  rw [List.getD_eq_getElem?_getD, List.getElem?_eq_getElem h]
  exact List.getElem_mem _
theorem cut_mem {l : List Vl} {k : Nat} {v : Vl} (h : v ∈ cutV l k) : v ∈ l := List.mem_of_mem_take h
theorem kd_I {v : Vl} (h : kd v = 73) : v.ref = false := by
  unfold kd at h
  cases hv : v.ref
  · rfl
  · rw [hv] at h; simp at h
theorem kd_R {v : Vl} (h : kd v = 82) : v.ref = true := by
  unfold kd at h
  cases hv : v.ref
  · rw [hv] at h; simp at h
  · rfl
theorem wrap_in (x : Int) : in64 (IntKind.i64.wrap x) := by
  rw [IntKind.wrap_i64]
  unfold in64
  omega
theorem kd_vi (n : Int) : kd (vi n) = 73 := rfl
theorem kd_vr (n : Int) : kd (vr n) = 82 := rfl
theorem kd_zero {c : UInt8} (h : c = 73 ∨ c = 82) : kd (zeroV c) = c := by
  rcases h with rfl | rfl <;> rfl
theorem kds_zero {l : List UInt8} (h : ∀ c ∈ l, c = 73 ∨ c = 82) : kds (l.map zeroV) = l := by
  unfold kds
  rw [List.map_map]
  conv => rhs; rw [← List.map_id l]
  exact List.map_congr_left fun c hc => kd_zero (h c hc)
theorem zero_ok (n : Nat) (c : UInt8) : (zeroV c).Ok n := by
  unfold zeroV
  split
  · exact And.intro (fun _ => ⟨Int.le_refl _, by show (-1 : Int) < _; omega⟩) (by unfold in64; decide)
  · exact And.intro (fun h => by cases h) (by unfold in64; decide)

/-- What insCode says of an instruction that may be. -/
structure InsOk (cs : List ByteArray) (nm : Nat) (m : Meth) (x : Ins) : Prop where
  op : 1 ≤ x.op ∧ x.op ≤ 35
  loc : x.op = 3 ∨ x.op = 4 → 0 ≤ x.a ∧ x.a < (kindsL m).length
  cls : x.op = 24 ∨ x.op = 25 ∨ x.op = 26 ∨ x.op = 27 → 0 ≤ x.a ∧ x.a < cs.length
  fld : x.op = 25 ∨ x.op = 26 → 0 ≤ x.b ∧ x.b < (cs.getD x.a.toNat ByteArray.empty).size
  arr : x.op = 28 ∨ x.op = 29 ∨ x.op = 30 → x.a = 0 ∨ x.a = 1
  call : x.op = 32 → 1 ≤ x.a ∧ x.a < nm
  jmp : x.op = 22 ∨ x.op = 23 → 0 ≤ x.a ∧ x.a < m.code.length
theorem kindsL_len (m : Meth) : (kindsL m).length = m.params.size + m.locals.size := by
  unfold kindsL
  rw [List.length_append, ← size_list, ← size_list]
theorem insOk {cs : List ByteArray} {nm : Nat} {m : Meth} {x : Ins} (h : insCode cs nm m x = 0) : InsOk cs nm m x := by
  unfold insCode at h
  by_cases h1 : x.op < 1 ∨ 35 < x.op
  · rw [if_pos h1] at h; cases h
  rw [if_neg h1] at h
  by_cases h2 : (x.op = 3 ∨ x.op = 4) ∧ (x.a < 0 ∨ (m.params.size : Int) + m.locals.size ≤ x.a)
  · rw [if_pos h2] at h; cases h
  rw [if_neg h2] at h
  by_cases h3 : (x.op = 24 ∨ x.op = 25 ∨ x.op = 26 ∨ x.op = 27) ∧ (x.a < 0 ∨ (cs.length : Int) ≤ x.a ∨ UB x.op ∧ (x.b < 0 ∨ ((cs.getD x.a.toNat ByteArray.empty).size : Int) ≤ x.b))
  · rw [if_pos h3] at h; cases h
  rw [if_neg h3] at h
  by_cases h4 : (x.op = 28 ∨ x.op = 29 ∨ x.op = 30) ∧ x.a ≠ 0 ∧ x.a ≠ 1
  · rw [if_pos h4] at h; cases h
  rw [if_neg h4] at h
  by_cases h5 : x.op = 32 ∧ (x.a < 1 ∨ (nm : Int) ≤ x.a)
  · rw [if_pos h5] at h; cases h
  rw [if_neg h5] at h
  by_cases h6 : (x.op = 22 ∨ x.op = 23) ∧ (x.a < 0 ∨ (m.code.length : Int) ≤ x.a)
  · rw [if_pos h6] at h; cases h
  clear h
  have hk := kindsL_len m
  unfold UB at h3
  refine ⟨by omega, fun e => ?_, fun e => ?_, fun e => ?_, fun e => ?_, fun e => ?_, fun e => ?_⟩
  · rw [hk]; omega
  · omega
  · have : x.a ≥ 0 := by omega
    omega
  · omega
  · omega
  · omega

/-- What an action leaves is well formed. -/
def Mact.Ok (p : Prg) (S : Mc) (kl t : List UInt8) : Mact → Prop
  | .trap _ => True
  | .go loc stk objs inp out => kds loc = kl ∧ kds stk = t ∧ (∀ v ∈ loc, v.Ok objs.length) ∧ (∀ v ∈ stk, v.Ok objs.length) ∧ (∀ o ∈ objs, o.Ok p objs.length) ∧ S.objs.length ≤ objs.length ∧ objs.length + out.length ≤ S.objs.length + S.out.length + 1 ∧ (∀ x ∈ inp, in64 x) ∧ (∀ x ∈ out, in64 x)

/-- A frame on top, and what the verifier says of its instruction. -/
structure At (p : Prg) (ss : List Lk) (S : Mc) (f : Fm) (x : Ins) (t : List UInt8) : Prop where
  fr : f.Ok p ss S.objs.length (kds f.stk)
  ok : S.Ok p ss
  xe : x = p.at_ f.m f.pc
  beh : behL p (p.ms.getD f.m default) x (kds f.stk) = .ok t
  next : ∀ k ∈ nextL (p.ms.getD f.m default).code f.pc, k < (p.ms.getD f.m default).code.length ∧ (ss.getD f.m default).seen.getD k.toNat false = true ∧ (ss.getD f.m default).stk.getD k.toNat [] = t
  ins : InsOk p.cs p.ms.length (p.ms.getD f.m default) x
  bd : x.bd
/-- The program's integers are integers. -/
def Prg.Bd (p : Prg) : Prop := ∀ m pc, (p.at_ m pc).bd
theorem Mc.Ok.at_ {p : Prg} {ss : List Lk} {S : Mc} {f : Fm} {below : List Fm} (h : S.Ok p ss) (hp : p.Ok) (hl : Looks p ss) (hb : p.Bd) (hf : S.frs = f :: below) : ∃ t, At p ss S f (p.at_ f.m f.pc) t := by
  have hfr := (h.top f below hf).1
  have hg := look_good (by have := hfr.pc; omega) (hl.look f.m hfr.m)
  obtain ⟨t, h1, _, _, h4⟩ := hg.1.all f.pc (hg.2.2 f.pc hfr.seen)
  rw [hfr.stk] at h1
  exact ⟨t, hfr, h, rfl, h1, h4, insOk (hp.ins f.m hfr.m f.pc hfr.pc), hb _ _⟩
/-- What is popped lies on top; what is pushed lies there then. -/
theorem At.eff {p : Prg} {ss : List Lk} {S : Mc} {f : Fm} {x : Ins} {t pop push : List UInt8} (h : At p ss S f x t) (h5 : x.op ≠ 5) (h6 : x.op ≠ 6) (h7 : x.op ≠ 7) (he : effL p (p.ms.getD f.m default) x = some (pop, push)) :
    pop.length ≤ f.stk.length ∧ (∀ i, i < pop.length → kd (tp f.stk i) = pop.getD (pop.length - 1 - i) 0) ∧ t = (kds f.stk).take (f.stk.length - pop.length) ++ push := by
  have h1 := behL_eff h.beh h5 h6 h7 he
  rw [kds_len] at h1
  exact ⟨h1.1, fun i hi => tp_kd h1.2.1 h1.1 hi, h1.2.2⟩
/-- A value that lies on top may be. -/
theorem At.tv {p : Prg} {ss : List Lk} {S : Mc} {f : Fm} {x : Ins} {t : List UInt8} (h : At p ss S f x t) {i : Nat} (hi : i < f.stk.length) : (tp f.stk i).Ok S.objs.length := h.fr.sv _ (tp_mem hi)
theorem At.put {p : Prg} {ss : List Lk} {S : Mc} {f : Fm} {x : Ins} {t : List UInt8} (h : At p ss S f x t) {k : Nat} {l : List Vl} (ht : t = (kds f.stk).take (f.stk.length - k) ++ kds l) (hv : ∀ v ∈ l, v.Ok S.objs.length) :
    Mact.Ok p S (kds f.loc) t (.go f.loc (cutV f.stk k ++ l) S.objs S.inp S.out) := by
  refine ⟨rfl, ?_, h.fr.lv, fun v hv2 => ?_, h.ok.objs, Nat.le_refl _, by omega, h.ok.inp, h.ok.out⟩
  · rw [kds_app, kds_cut, ht]
  · rcases List.mem_append.1 hv2 with h1 | h1
    · exact h.fr.sv v (cut_mem h1)
    · exact hv v h1
theorem vi_ok {n : Nat} {x : Int} (h : in64 x) : (vi x).Ok n := And.intro (fun hr => by cases hr) h
theorem letters_mem {s : ByteArray} (h : lettersB s = true) : ∀ c ∈ s.toList, c = 73 ∨ c = 82 := by
  intro c hc
  obtain ⟨i, hi, rfl⟩ := List.getElem_of_mem hc
  have h1 : i < s.size := by rw [size_list]; exact hi
  have h2 := get_list s i h1
  rw [List.getElem?_eq_getElem hi] at h2
  rw [Option.some.inj h2]
  exact lettersB_true.1 h i h1
theorem Prg.Ok.fields {p : Prg} (hp : p.Ok) {c : Int} (h0 : 0 ≤ c) (h : c < p.cs.length) : (∀ b ∈ (p.cs.getD c.toNat ByteArray.empty).toList, b = 73 ∨ b = 82) ∧ (p.cs.getD c.toNat ByteArray.empty).size ≤ 10 := by
  have h1 := hp.cls c.toNat (by omega)
  unfold clsCode at h1
  split at h1
  · cases h1
  · split at h1
    · rename_i h2 h3
      exact ⟨letters_mem h3, by omega⟩
    · cases h1
theorem Prg.Ok.made {p : Prg} (hp : p.Ok) {c : Int} {k n : Nat} (lo : -2 ≤ c) (hi : c < p.cs.length) (hk : k ≤ 50) : (p.made c k).Ok p n := by
  by_cases h0 : 0 ≤ c
  · have hf := hp.fields h0 hi
    have e : p.lets c k = (p.cs.getD c.toNat ByteArray.empty).toList := by unfold Prg.lets; rw [if_pos h0]
    have e2 : ∀ q, p.lets c q = (p.cs.getD c.toNat ByteArray.empty).toList := fun q => by unfold Prg.lets; rw [if_pos h0]
    refine ⟨lo, hi, ?_, ?_, ?_⟩
    · show kds ((p.lets c k).map zeroV) = p.lets c _
      rw [e, e2, kds_zero hf.1]
    · show ((p.lets c k).map zeroV).length ≤ 50
      rw [e, List.length_map, ← size_list]
      omega
    · intro v hv
      obtain ⟨b, _, rfl⟩ := List.mem_map.1 hv
      exact zero_ok _ _
  · have e : ∀ q, p.lets c q = List.replicate q (if c = -2 then 82 else 73) := fun q => by unfold Prg.lets; rw [if_neg h0]
    refine ⟨lo, hi, ?_, ?_, ?_⟩
    · show kds ((p.lets c k).map zeroV) = p.lets c ((p.lets c k).map zeroV).length
      rw [List.length_map, e, List.length_replicate, e, kds_zero]
      intro b hb
      rw [List.mem_replicate] at hb
      rw [hb.2]
      split <;> simp
    · show ((p.lets c k).map zeroV).length ≤ 50
      rw [List.length_map, e, List.length_replicate]
      exact hk
    · intro v hv
      obtain ⟨b, _, rfl⟩ := List.mem_map.1 hv
      exact zero_ok _ _
theorem atB_in {s : List UInt8} {i : Int} (h0 : 0 ≤ i) (h : i < s.length) : atB s i = [s.getD i.toNat 0] := by
  unfold atB
  rw [if_pos ⟨h0, h⟩]
/-- An object that a reference names. -/
theorem At.obj {p : Prg} {ss : List Lk} {S : Mc} {f : Fm} {x : Ins} {t : List UInt8} (h : At p ss S f x t) {v : Vl} (hv : v.Ok S.objs.length) (hr : v.ref = true) (hn : v.n ≠ -1) : v.n.toNat < S.objs.length ∧ 0 ≤ v.n ∧ v.n < S.objs.length ∧ (S.objs.getD v.n.toNat default).Ok p S.objs.length := by
  have h1 := hv.1 hr
  have h2 : v.n.toNat < S.objs.length := by omega
  exact ⟨h2, by omega, h1.2, h.ok.objs _ (getD_mem h2)⟩
/-- A value of an object is stored. -/
theorem At.set {p : Prg} {ss : List Lk} {S : Mc} {f : Fm} {x : Ins} {t : List UInt8} (h : At p ss S f x t) {k r i : Nat} {v : Vl} (hk : t = (kds f.stk).take (f.stk.length - k)) (hr : r < S.objs.length) (hv : v.Ok S.objs.length) (hkd : i < (S.objs.getD r default).vals.length → kd v = (kds (S.objs.getD r default).vals).getD i 0) :
    Mact.Ok p S (kds f.loc) t (.go f.loc (cutV f.stk k) (S.objs.set r ⟨(S.objs.getD r default).cls, (S.objs.getD r default).vals.set i v⟩) S.inp S.out) := by
  have ho := h.ok.objs _ (getD_mem hr)
  have hl : (S.objs.set r ⟨(S.objs.getD r default).cls, (S.objs.getD r default).vals.set i v⟩).length = S.objs.length := by simp
  refine ⟨rfl, by rw [kds_cut, hk], ?_, ?_, ?_, by omega, by omega, h.ok.inp, h.ok.out⟩
  · rw [hl]; exact h.fr.lv
  · rw [hl]; exact fun v hv => h.fr.sv v (cut_mem hv)
  · rw [hl]
    intro o ho2
    rcases List.mem_or_eq_of_mem_set ho2 with h1 | rfl
    · exact h.ok.objs o h1
    · refine ⟨ho.lo, ho.hi, ?_, ?_, ?_⟩
      · show kds (List.set _ _ _) = p.lets _ (List.set _ _ _).length
        rw [kds_set hkd, List.length_set]
        exact ho.kinds
      · show (List.set _ _ _).length ≤ 50
        rw [List.length_set]
        exact ho.len
      · intro u hu
        rcases List.mem_or_eq_of_mem_set hu with h1 | rfl
        · exact ho.vals u h1
        · exact hv
/-- A new object. -/
theorem At.new {p : Prg} {ss : List Lk} {S : Mc} {f : Fm} {x : Ins} {t : List UInt8} (h : At p ss S f x t) {k : Nat} {o : Ob} (hk : t = (kds f.stk).take (f.stk.length - k) ++ [82]) (ho : ∀ n, o.Ok p n) :
    Mact.Ok p S (kds f.loc) t (.go f.loc (cutV f.stk k ++ [vr S.objs.length]) (S.objs ++ [o]) S.inp S.out) := by
  have hl : (S.objs ++ [o]).length = S.objs.length + 1 := by simp
  have hroom := h.ok.room
  refine ⟨rfl, ?_, ?_, ?_, ?_, by omega, by omega, h.ok.inp, h.ok.out⟩
  · rw [kds_app, kds_cut, hk]; rfl
  · rw [hl]; exact fun v hv => (h.fr.lv v hv).mono (by omega)
  · rw [hl]
    intro v hv
    rcases List.mem_append.1 hv with h1 | h1
    · exact (h.fr.sv v (cut_mem h1)).mono (by omega)
    · rw [List.mem_singleton] at h1
      subst h1
      refine ⟨fun _ => ⟨?_, ?_⟩, ?_⟩
      · show (-1 : Int) ≤ (S.objs.length : Int); omega
      · show (S.objs.length : Int) < ((S.objs.length + 1 : Nat) : Int); omega
      · unfold in64; show -9223372036854775808 ≤ (S.objs.length : Int) ∧ (S.objs.length : Int) ≤ 9223372036854775807; omega
  · rw [hl]
    intro u hu
    rcases List.mem_append.1 hu with h1 | h1
    · exact (h.ok.objs u h1).mono (by omega)
    · rw [List.mem_singleton] at h1
      subst h1
      exact ho _
theorem cut_all (l : List UInt8) (n : Nat) (h : l.length = n) : l.take (n - 0) = l := by
  rw [Nat.sub_zero, ← h, List.take_length]
theorem fdiv_in {a : Int} (ha : in64 a) (k : Nat) : in64 (a.fdiv (2 ^ k)) := by
  have hd : (0 : Int) < 2 ^ k := Int.pow_pos (by decide)
  rw [Int.fdiv_eq_ediv_of_nonneg _ (Int.le_of_lt hd)]
  unfold in64 at *
  by_cases h0 : 0 ≤ a
  · have h1 := Int.ediv_nonneg h0 (Int.le_of_lt hd)
    have h2 := Int.ediv_le_self (2 ^ k) h0
    omega
  · have h1 : a * 1 ≥ a * 2 ^ k := Int.mul_le_mul_of_nonpos_left (by omega) hd
    have h2 : a ≤ a / 2 ^ k := (Int.le_ediv_iff_mul_le hd).2 (by omega)
    have h3 := Int.ediv_neg_of_neg_of_pos (show a < 0 by omega) hd
    omega
theorem tmod_in {a b : Int} (ha : in64 a) : in64 (a.tmod b) := by
  have h := Int.natAbs_tmod a b
  have h2 := Nat.mod_le a.natAbs b.natAbs
  rcases Int.lt_or_le a 0 with h0 | h0
  · have h3 : a.tmod b ≤ 0 := by
      have := Int.tmod_nonneg b (show 0 ≤ -a by omega)
      rw [Int.neg_tmod] at this
      omega
    unfold in64 at *
    omega
  · have h3 := Int.tmod_nonneg b h0
    unfold in64 at *
    omega
theorem in_0 : in64 0 := by unfold in64; decide
theorem in_1 : in64 1 := by unfold in64; decide
theorem pick_in {c : Prop} [Decidable c] {p q : Int × Int} (hp : in64 p.1) (hq : in64 q.1) : in64 (if c then p else q).1 := by
  split <;> assumption
theorem twoL_in {op a b : Int} (ha : in64 a) : in64 (twoL op a b).1 := by
  unfold twoL
  repeat' first | exact wrap_in _ | exact in_0 | exact tmod_in ha | exact fdiv_in ha _ | refine pick_in ?_ ?_
  · show in64 (if a < b then 1 else 0)
    split
    · exact in_1
    · exact in_0
  · show in64 (if a = b then 1 else 0)
    split
    · exact in_1
    · exact in_0
theorem At.touch {p : Prg} {ss : List Lk} {S : Mc} {f : Fm} {x : Ins} {t : List UInt8} (h : At p ss S f x t) (ho : x.op = 25 ∨ x.op = 26 ∨ x.op = 27 ∨ x.op = 29 ∨ x.op = 30 ∨ x.op = 31) :
    Mact.Ok p S (kds f.loc) t (S.touch f x) := by
  rcases ho with hx | hx | hx | hx | hx | hx
  · -- Get
    have hin := h.ins.cls (by omega)
    have hfl := h.ins.fld (by omega)
    have he : effL p (p.ms.getD f.m default) x = some ([82], [(p.cs.getD x.a.toNat ByteArray.empty).toList.getD x.b.toNat 0]) := by
      unfold effL
      rw [show fieldL p.cs x.a x.b = [(p.cs.getD x.a.toNat ByteArray.empty).toList.getD x.b.toNat 0] by
        unfold fieldL
        rw [if_pos ⟨hin.1, hin.2⟩, atB_in hfl.1 (by rw [← size_list]; exact hfl.2)]]
      simp [hx, lR]
    obtain ⟨h1, h2, h3⟩ := h.eff (by omega) (by omega) (by omega) he
    simp only [List.length_singleton] at h1 h2 h3
    have hr := kd_R (h2 0 (by omega))
    unfold Mc.touch
    simp only [if_neg (show ¬ (x.op = 26 ∨ x.op = 29) by omega), if_neg (show ¬ x.op = 30 by omega), if_neg (show ¬ x.op = 27 by omega), if_pos hx, if_neg (show ¬ x.op = 26 by omega), if_neg (show ¬ x.op = 29 by omega), if_neg (show ¬ x.op = 31 by omega)]
    split
    · trivial
    · rename_i hn
      split
      · trivial
      · rename_i hc
        have hc2 := Decidable.not_not.1 hc
        obtain ⟨h4, h5, h6, h7⟩ := h.obj (h.tv (i := 0) (by omega)) hr hn
        have hk := h7.kinds
        rw [hc2] at hk
        unfold Prg.lets at hk
        rw [if_pos hin.1] at hk
        have hlen : x.b.toNat < (S.objs.getD (tp f.stk 0).n.toNat default).vals.length := by
          rw [← kds_len, hk, ← size_list]; omega
        refine h.put (l := [_]) ?_ ?_
        · rw [h3]
          show _ ++ [_] = _ ++ [kd _]
          rw [kd_getD hlen, hk]
        · intro v hv
          rw [List.mem_singleton] at hv
          subst hv
          exact h7.vals _ (getD_mem hlen)
  · -- Put
    have hin := h.ins.cls (by omega)
    have hfl := h.ins.fld (by omega)
    have he : effL p (p.ms.getD f.m default) x = some ([82, (p.cs.getD x.a.toNat ByteArray.empty).toList.getD x.b.toNat 0], []) := by
      unfold effL
      rw [show fieldL p.cs x.a x.b = [(p.cs.getD x.a.toNat ByteArray.empty).toList.getD x.b.toNat 0] by
        unfold fieldL
        rw [if_pos ⟨hin.1, hin.2⟩, atB_in hfl.1 (by rw [← size_list]; exact hfl.2)]]
      simp [hx, lR]
    obtain ⟨h1, h2, h3⟩ := h.eff (by omega) (by omega) (by omega) he
    simp only [List.length_cons, List.length_nil, List.append_nil] at h1 h2 h3
    have hr := kd_R (h2 1 (by omega))
    have h0 := h2 0 (by omega)
    unfold Mc.touch
    simp only [if_pos (show x.op = 26 ∨ x.op = 29 by omega), if_neg (show ¬ x.op = 30 by omega), if_neg (show ¬ x.op = 27 by omega), if_neg (show ¬ x.op = 25 by omega), if_pos hx, if_neg (show ¬ x.op = 29 by omega), if_neg (show ¬ x.op = 31 by omega)]
    split
    · trivial
    · rename_i hn
      split
      · trivial
      · rename_i hc
        have hc2 := Decidable.not_not.1 hc
        obtain ⟨h4, h5, h6, h7⟩ := h.obj (h.tv (i := 1) (by omega)) hr hn
        have hk := h7.kinds
        rw [hc2] at hk
        unfold Prg.lets at hk
        rw [if_pos hin.1] at hk
        refine h.set h3 h4 (h.tv (by omega)) fun _ => ?_
        rw [h0, hk]
        rfl
  · -- Is
    have he : effL p (p.ms.getD f.m default) x = some ([82], [73]) := by unfold effL; simp [hx, lI, lR]
    obtain ⟨h1, h2, h3⟩ := h.eff (by omega) (by omega) (by omega) he
    simp only [List.length_singleton] at h1 h2 h3
    unfold Mc.touch
    simp only [if_neg (show ¬ (x.op = 26 ∨ x.op = 29) by omega), if_neg (show ¬ x.op = 30 by omega), if_pos hx, if_neg (show ¬ x.op = 25 by omega), if_neg (show ¬ x.op = 26 by omega), if_neg (show ¬ x.op = 29 by omega), if_neg (show ¬ x.op = 31 by omega)]
    refine h.put (l := [_]) h3 ?_
    intro v hv
    rw [List.mem_singleton] at hv
    subst hv
    refine vi_ok ?_
    split <;> (unfold in64; decide)
  · -- Elem
    have ha := h.ins.arr (by omega)
    have he : effL p (p.ms.getD f.m default) x = some ([82, 73], [if x.a = 1 then 82 else 73]) := by
      unfold effL
      rcases ha with ha | ha <;> simp [hx, lI, lR, ha, atB]
    obtain ⟨h1, h2, h3⟩ := h.eff (by omega) (by omega) (by omega) he
    simp only [List.length_cons, List.length_nil] at h1 h2 h3
    have hr := kd_R (h2 1 (by omega))
    unfold Mc.touch
    simp only [if_pos (show x.op = 26 ∨ x.op = 29 by omega), if_neg (show ¬ x.op = 30 by omega), if_neg (show ¬ x.op = 27 by omega), if_neg (show ¬ x.op = 25 by omega), if_neg (show ¬ x.op = 26 by omega), if_pos hx, if_neg (show ¬ x.op = 31 by omega)]
    split
    · trivial
    · rename_i hn
      split
      · trivial
      · rename_i hc
        have hc2 := Decidable.not_not.1 hc
        split
        · trivial
        · rename_i hb
          simp only [Nat.sub_self] at hb
          obtain ⟨h4, h5, h6, h7⟩ := h.obj (h.tv (i := 1) (by omega)) hr hn
          have hk := h7.kinds
          rw [hc2] at hk
          unfold Prg.lets at hk
          rw [if_neg (by omega)] at hk
          have hlen : (tp f.stk 0).n.toNat < (S.objs.getD (tp f.stk 1).n.toNat default).vals.length := by omega
          refine h.put (l := [_]) ?_ ?_
          · rw [h3]
            show _ ++ [_] = _ ++ [kd _]
            rw [kd_getD hlen, hk, List.getD_eq_getElem?_getD, List.getElem?_replicate, if_pos hlen, Option.getD_some]
            congr 2
            rcases ha with ha | ha <;> simp [ha]
          · intro v hv
            rw [List.mem_singleton] at hv
            subst hv
            exact h7.vals _ (getD_mem hlen)
  · -- Set
    have ha := h.ins.arr (by omega)
    have he : effL p (p.ms.getD f.m default) x = some ([82, 73, if x.a = 1 then 82 else 73], []) := by
      unfold effL
      rcases ha with ha | ha <;> simp [hx, lI, lR, ha, atB]
    obtain ⟨h1, h2, h3⟩ := h.eff (by omega) (by omega) (by omega) he
    simp only [List.length_cons, List.length_nil, List.append_nil] at h1 h2 h3
    have hr := kd_R (h2 2 (by omega))
    have h0 := h2 0 (by omega)
    unfold Mc.touch
    simp only [if_neg (show ¬ (x.op = 26 ∨ x.op = 29) by omega), if_pos hx, if_neg (show ¬ x.op = 27 by omega), if_neg (show ¬ x.op = 25 by omega), if_neg (show ¬ x.op = 26 by omega), if_neg (show ¬ x.op = 29 by omega), if_neg (show ¬ x.op = 31 by omega)]
    split
    · trivial
    · rename_i hn
      split
      · trivial
      · rename_i hc
        have hc2 := Decidable.not_not.1 hc
        split
        · trivial
        · rename_i hb
          simp only [show 2 - 1 = 1 from rfl] at hb
          obtain ⟨h4, h5, h6, h7⟩ := h.obj (h.tv (i := 2) (by omega)) hr hn
          have hk := h7.kinds
          rw [hc2] at hk
          unfold Prg.lets at hk
          rw [if_neg (by omega)] at hk
          refine h.set h3 h4 (h.tv (by omega)) fun hlen => ?_
          have hg : (List.replicate (S.objs.getD (tp f.stk 2).n.toNat default).vals.length (if -1 - x.a = -2 then (82 : UInt8) else 73)).getD (tp f.stk 1).n.toNat 0 = if -1 - x.a = -2 then 82 else 73 := by
            rw [List.getD_eq_getElem?_getD, List.getElem?_replicate, if_pos hlen, Option.getD_some]
          rw [h0, hk, hg]
          rcases ha with ha | ha <;> simp [ha]
  · -- Len
    have he : effL p (p.ms.getD f.m default) x = some ([82], [73]) := by unfold effL; simp [hx, lI, lR]
    obtain ⟨h1, h2, h3⟩ := h.eff (by omega) (by omega) (by omega) he
    simp only [List.length_singleton] at h1 h2 h3
    have hr := kd_R (h2 0 (by omega))
    unfold Mc.touch
    simp only [if_neg (show ¬ (x.op = 26 ∨ x.op = 29) by omega), if_neg (show ¬ x.op = 30 by omega), if_neg (show ¬ x.op = 27 by omega), if_neg (show ¬ x.op = 25 by omega), if_neg (show ¬ x.op = 26 by omega), if_neg (show ¬ x.op = 29 by omega), if_pos hx]
    split
    · trivial
    · rename_i hn
      split
      · trivial
      · obtain ⟨h4, h5, h6, h7⟩ := h.obj (h.tv (i := 0) (by omega)) hr hn
        refine h.put (l := [_]) h3 ?_
        intro v hv
        rw [List.mem_singleton] at hv
        subst hv
        refine vi_ok ?_
        have := h7.len
        unfold in64
        omega
theorem At.plain {p : Prg} {ss : List Lk} {S : Mc} {f : Fm} {x : Ins} {t : List UInt8} (h : At p ss S f x t) (hp : p.Ok) (h22 : x.op ≠ 22) (h23 : x.op ≠ 23) (h32 : x.op ≠ 32) (h33 : x.op ≠ 33) :
    Mact.Ok p S (kds f.loc) t (S.plain p f x) := by
  have hop := h.ins.op
  unfold Mc.plain
  simp only
  have cut0 : ∀ u : List UInt8, u.length = f.stk.length → u.take (f.stk.length - 0) = u := fun u hu => cut_all u _ hu
  by_cases hx : x.op = 1
  · rw [if_pos hx]
    have he : effL p (p.ms.getD f.m default) x = some ([], [73]) := by unfold effL; simp [hx, lI]
    obtain ⟨h1, h2, h3⟩ := h.eff (by omega) (by omega) (by omega) he
    refine h.put (l := [_]) h3 ?_
    intro v hv
    rw [List.mem_singleton] at hv
    subst hv
    exact vi_ok h.bd.2.2.2
  rw [if_neg hx]
  by_cases hx : x.op = 2
  · rw [if_pos hx]
    have he : effL p (p.ms.getD f.m default) x = some ([], [82]) := by unfold effL; simp [hx, lR]
    obtain ⟨h1, h2, h3⟩ := h.eff (by omega) (by omega) (by omega) he
    refine h.put (l := [_]) h3 ?_
    intro v hv
    rw [List.mem_singleton] at hv
    subst hv
    exact zero_ok _ 82
  rw [if_neg hx]
  by_cases hx : x.op = 3
  · rw [if_pos hx]
    have hl := h.ins.loc (by omega)
    have hlen : x.a.toNat < f.loc.length := by rw [← kds_len, h.fr.loc]; omega
    have he : effL p (p.ms.getD f.m default) x = some ([], [(kindsL (p.ms.getD f.m default)).getD x.a.toNat 0]) := by
      unfold effL
      rw [atB_in hl.1 hl.2]
      simp [hx]
    obtain ⟨h1, h2, h3⟩ := h.eff (by omega) (by omega) (by omega) he
    refine h.put (l := [_]) ?_ ?_
    · rw [h3]
      show _ ++ [_] = _ ++ [kd _]
      rw [kd_getD hlen, h.fr.loc]
      rfl
    intro v hv
    rw [List.mem_singleton] at hv
    subst hv
    exact h.fr.lv _ (getD_mem hlen)
  rw [if_neg hx]
  by_cases hx : x.op = 4
  · rw [if_pos hx]
    have hl := h.ins.loc (by omega)
    have he : effL p (p.ms.getD f.m default) x = some ([(kindsL (p.ms.getD f.m default)).getD x.a.toNat 0], []) := by
      unfold effL
      rw [atB_in hl.1 hl.2]
      simp [hx]
    obtain ⟨h1, h2, h3⟩ := h.eff (by omega) (by omega) (by omega) he
    simp only [List.length_singleton, List.append_nil] at h1 h2 h3
    have h0 := h2 0 (by omega)
    refine ⟨?_, ?_, ?_, ?_, h.ok.objs, Nat.le_refl _, by omega, h.ok.inp, h.ok.out⟩
    · refine kds_set fun _ => ?_
      rw [h0, h.fr.loc]
      rfl
    · rw [kds_cut, h3]
    · intro v hv
      rcases List.mem_or_eq_of_mem_set hv with h4 | rfl
      · exact h.fr.lv v h4
      · exact h.tv (by omega)
    · exact fun v hv => h.fr.sv v (cut_mem hv)
  rw [if_neg hx]
  by_cases hx : x.op = 5
  · rw [if_pos hx]
    obtain ⟨h1, h2⟩ := behL_dup h.beh hx
    rw [kds_len] at h1 h2
    refine h.put (l := [_]) ?_ ?_
    · rw [h2, cut0 _ (kds_len _)]
      congr 1
      show _ = [kd _]
      have h3 : ((kds f.stk).drop (f.stk.length - 1)).length = 1 := by rw [List.length_drop, kds_len]; omega
      obtain ⟨c, hc⟩ := List.length_eq_one_iff.1 h3
      have h4 := tp_kd (l := f.stk) (pop := [c]) (i := 0) (by simpa using hc) (by simpa using h1) (by simp)
      rw [hc, h4]
      rfl
    · intro v hv
      rw [List.mem_singleton] at hv
      subst hv
      exact h.tv (by omega)
  rw [if_neg hx]
  by_cases hx : x.op = 6
  · rw [if_pos hx]
    obtain ⟨h1, h2⟩ := behL_pop h.beh hx
    rw [kds_len] at h1 h2
    refine h.put (l := []) ?_ (by simp)
    rw [h2]
    simp [kds]
  rw [if_neg hx]
  by_cases hx : x.op = 7
  · rw [if_pos hx]
    obtain ⟨h1, h2⟩ := behL_swap h.beh hx
    rw [kds_len] at h1 h2
    have h3 : ((kds f.stk).drop (f.stk.length - 2)).length = 2 := by rw [List.length_drop, kds_len]; omega
    obtain ⟨c, d, hc⟩ : ∃ c d, (kds f.stk).drop (f.stk.length - 2) = [c, d] := by
      match hq : (kds f.stk).drop (f.stk.length - 2), h3 with
      | [c, d], _ => exact ⟨c, d, rfl⟩
    have h4 := tp_kd (l := f.stk) (pop := [c, d]) (i := 0) (by simpa using hc) (by simpa using h1) (by simp)
    have h5 := tp_kd (l := f.stk) (pop := [c, d]) (i := 1) (by simpa using hc) (by simpa using h1) (by simp)
    refine h.put (l := [_, _]) ?_ ?_
    · rw [h2]
      show _ = _ ++ [kd _, kd _]
      rw [h4, h5]
      show _ = _ ++ [d, c]
      have e1 : (kds f.stk).drop (f.stk.length - 1) = [d] := by
        rw [show f.stk.length - 1 = f.stk.length - 2 + 1 by omega, ← List.drop_drop, hc]; rfl
      have e2 : ((kds f.stk).take (f.stk.length - 1)).drop (f.stk.length - 2) = [c] := by
        rw [List.drop_take, show f.stk.length - 1 - (f.stk.length - 2) = 1 by omega, hc]; rfl
      rw [e1, e2, List.append_assoc]
      rfl
    · intro v hv
      rcases List.mem_cons.1 hv with rfl | hv
      · exact h.tv (by omega)
      · rw [List.mem_singleton] at hv
        subst hv
        exact h.tv (by omega)
  rw [if_neg hx]
  by_cases hx : x.op = 18
  · rw [if_pos hx]
    have he : effL p (p.ms.getD f.m default) x = some ([73], [73]) := by unfold effL; simp [hx, lI]
    obtain ⟨h1, h2, h3⟩ := h.eff (by omega) (by omega) (by omega) he
    refine h.put (l := [_]) h3 ?_
    intro v hv
    rw [List.mem_singleton] at hv
    subst hv
    exact vi_ok (wrap_in _)
  rw [if_neg hx]
  by_cases hx : x.op = 21
  · rw [if_pos hx]
    have he : effL p (p.ms.getD f.m default) x = some ([82, 82], [73]) := by unfold effL; simp [hx, lI, lR]
    obtain ⟨h1, h2, h3⟩ := h.eff (by omega) (by omega) (by omega) he
    refine h.put (l := [_]) h3 ?_
    intro v hv
    rw [List.mem_singleton] at hv
    subst hv
    refine vi_ok ?_
    split <;> (unfold in64; decide)
  rw [if_neg hx]
  by_cases hx : x.op = 34
  · rw [if_pos hx]
    have he : effL p (p.ms.getD f.m default) x = some ([], [73]) := by unfold effL; simp [hx, lI]
    obtain ⟨h1, h2, h3⟩ := h.eff (by omega) (by omega) (by omega) he
    cases hi : S.inp with
    | nil => trivial
    | cons n r =>
      have hb := h.ok.inp
      rw [hi] at hb
      refine ⟨rfl, ?_, h.fr.lv, fun v hv => ?_, h.ok.objs, Nat.le_refl _, by omega, fun y hy => hb y (List.mem_cons_of_mem _ hy), h.ok.out⟩
      · rw [kds_app, h3]
        simp only [List.length_nil]
        rw [cut0 _ (kds_len _)]
        rfl
      · rcases List.mem_append.1 hv with h4 | h4
        · exact h.fr.sv v h4
        · rw [List.mem_singleton] at h4
          subst h4
          exact vi_ok (hb n (List.mem_cons_self ..))
  rw [if_neg hx]
  by_cases hx : x.op = 35
  · rw [if_pos hx]
    have he : effL p (p.ms.getD f.m default) x = some ([73], []) := by unfold effL; simp [hx, lI]
    obtain ⟨h1, h2, h3⟩ := h.eff (by omega) (by omega) (by omega) he
    simp only [List.length_singleton, List.append_nil] at h1 h2 h3
    refine ⟨rfl, by rw [kds_cut, h3], h.fr.lv, fun v hv => h.fr.sv v (cut_mem hv), h.ok.objs, Nat.le_refl _, by simp; omega, h.ok.inp, fun y hy => ?_⟩
    rcases List.mem_append.1 hy with h4 | h4
    · exact h.ok.out y h4
    · rw [List.mem_singleton] at h4
      subst h4
      exact (h.tv (i := 0) (by omega)).2
  rw [if_neg hx]
  by_cases hx : x.op = 24
  · rw [if_pos hx]
    have he : effL p (p.ms.getD f.m default) x = some ([], [82]) := by unfold effL; simp [hx, lR]
    obtain ⟨h1, h2, h3⟩ := h.eff (by omega) (by omega) (by omega) he
    have hin := h.ins.cls (by omega)
    have := h.new (k := 0) (o := p.made x.a 0) h3 (fun n => hp.made (by omega) hin.2 (by omega))
    rwa [show cutV f.stk 0 = f.stk by unfold cutV; simp] at this
  rw [if_neg hx]
  by_cases hx : x.op = 28
  · rw [if_pos hx]
    have he : effL p (p.ms.getD f.m default) x = some ([73], [82]) := by unfold effL; simp [hx, lI, lR]
    obtain ⟨h1, h2, h3⟩ := h.eff (by omega) (by omega) (by omega) he
    have ha := h.ins.arr (by omega)
    split
    · trivial
    · exact h.new (k := 1) (o := p.made (-1 - x.a) _) h3 (fun n => hp.made (by omega) (by omega) (by omega))
  rw [if_neg hx]
  by_cases hx : x.op = 25 ∨ x.op = 26 ∨ x.op = 27 ∨ x.op = 29 ∨ x.op = 30 ∨ x.op = 31
  · rw [if_pos hx]
    exact h.touch hx
  rw [if_neg hx]
  split
  · trivial
  · have he : effL p (p.ms.getD f.m default) x = some ([73, 73], [73]) := by
      unfold effL
      rw [if_pos ⟨by omega, by omega, by omega⟩]
      rfl
    obtain ⟨h1, h2, h3⟩ := h.eff (by omega) (by omega) (by omega) he
    refine h.put (l := [_]) h3 ?_
    intro v hv
    rw [List.mem_singleton] at hv
    subst hv
    exact vi_ok (twoL_in (h.tv (i := 1) h1).2)
end Go.Proofs.YtojobkhidlfeoaaGreatDoor
