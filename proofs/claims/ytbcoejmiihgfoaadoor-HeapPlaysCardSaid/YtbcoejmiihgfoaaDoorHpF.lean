/- HeapPlays: the frame of the law's walk, and what it is told. -/
import Derived.Test.YtbcoejmiihgfoaaDoorHpM
import Derived.Test.YtbcoejmiihgfoaaDoorFirst
import Derived.Test.YtbcoejmiihgfoaaDoorWorld1
import Derived.Test.YtbcoejmiihgfoaaDoorMarkO
import Derived.Test.YtbcoejmiihgfoaaDoorMay3
import Derived.Test.YtbcoejmiihgfoaaDoorSeeIs
import Derived.Test.YtbcoejmiihgfoaaDoorOpenD
import Derived.Deep.CutBlock
/-! HeapPlays: the frame of the law's walk, and what it is told. -/
namespace Go.Proofs.YtbcoejmiihgfoaaDoor
open Go.RowKit

def findBlock (n : Nat) : Code → Option Code
 | .block m c => if m = n then some (.block m c) else findBlock n c
 | .seq a b => match findBlock n a with
  | some c => some c
  | none => findBlock n b
 | .cond _ a b => match findBlock n a with
  | some c => some c
  | none => findBlock n b
 | .loop c => findBlock n c
 | .scope c => findBlock n c
 | _ => none
noncomputable def hpB (n : Nat) : Code := (Tryd.f3.body.bind (findBlock n)).getD .skip
def headIs (n : Nat) : Code → Bool
 | .region m _ _ => m == n
 | _ => false
def findSeq (n : Nat) : Code → Option Code
 | .seq a b => if headIs n a = true then some (.seq a b) else match findSeq n a with
  | some c => some c
  | none => findSeq n b
 | .cond _ a b => match findSeq n a with
  | some c => some c
  | none => findSeq n b
 | .loop c => findSeq n c
 | .scope c => findSeq n c
 | .block _ c => findSeq n c
 | _ => none
def findReg (n : Nat) : Code → Option Code
 | .region m o d => if m = n then some (.region m o d) else none
 | .seq a b => match findReg n a with
  | some c => some c
  | none => findReg n b
 | .cond _ a b => match findReg n a with
  | some c => some c
  | none => findReg n b
 | .loop c => findReg n c
 | .scope c => findReg n c
 | .block _ c => findReg n c
 | _ => none
def tmpIs (n : Nat) : Operand → Bool
 | .tmp m => m == n
 | _ => false
def findIf (n : Nat) : Code → Option Code
 | .seq a b => match findIf n a with
  | some c => some c
  | none => findIf n b
 | .cond t a b => if tmpIs n t = true then some (.cond t a b) else match findIf n a with
  | some c => some c
  | none => findIf n b
 | .loop c => findIf n c
 | .scope c => findIf n c
 | .block _ c => findIf n c
 | _ => none
noncomputable def hpS (n : Nat) : Code := (Tryd.f3.body.bind (findSeq n)).getD .skip
noncomputable def hpR (n : Nat) : Code := (Tryd.f3.body.bind (findReg n)).getD .skip
noncomputable def hpC (n : Nat) : Code := (Tryd.f3.body.bind (findIf n)).getD .skip
set_option maxRecDepth 1000000 in
/-- The law's frame: what it keeps, and whatever else. -/
def hpF (lim nur : Int) (la : Option Addr) (nl lc : Nat) (ask at_ : Int) (pb hb ub : Nat) (half : Int) (s19 s20 s21 s22 s24 : Value) (f : Nat → Value) : Act :=
 ⟨#[f 0, .int .i64 lim, .int .i64 nur, .slice la nl lc, .int .i64 ask, .int .i64 at_, .pointer (some ⟨pb, 0, none⟩), f 7, f 8, f 9, f 10, f 11, f 12, f 13, .pointer (some ⟨hb, 0, none⟩), f 15, .int .i64 half, f 17, f 18, s19, s20, s21, s22, .pointer (some ⟨ub, 0, none⟩),
  s24, f 25, f 26, f 27, f 28, f 29, f 30, f 31, f 32, f 33, f 34, f 35, f 36, f 37, f 38, f 39, f 40, f 41, f 42, f 43, f 44, f 45, f 46, f 47,
  f 48, f 49, f 50, f 51, f 52, f 53, f 54, f 55, f 56, f 57, f 58, f 59, f 60, f 61, f 62, f 63, f 64, f 65, f 66, f 67, f 68, f 69, f 70, f 71,
  f 72, f 73, f 74, f 75, f 76, f 77, f 78, f 79, f 80, f 81, f 82, f 83, f 84, f 85, f 86, f 87, f 88, f 89, f 90, f 91, f 92, f 93, f 94, f 95,
  f 96, f 97, f 98, f 99, f 100, f 101, f 102, f 103, f 104, f 105, f 106, f 107, f 108, f 109, f 110, f 111, f 112, f 113, f 114, f 115, f 116, f 117, f 118, f 119,
  f 120, f 121, f 122, f 123, f 124, f 125, f 126, f 127, f 128, f 129, f 130, f 131, f 132, f 133, f 134, f 135, f 136, f 137, f 138, f 139, f 140, f 141, f 142, f 143,
  f 144, f 145, f 146, f 147, f 148, f 149, f 150, f 151, f 152, f 153, f 154, f 155, f 156, f 157, f 158, f 159, f 160, f 161, f 162, f 163, f 164, f 165, f 166, f 167,
  f 168, f 169, f 170, f 171, f 172, f 173, f 174, f 175, f 176, f 177, f 178, f 179, f 180, f 181, f 182, f 183, f 184, f 185, f 186, f 187, f 188, f 189, f 190, f 191,
  f 192, f 193, f 194, f 195, f 196, f 197, f 198, f 199, f 200, f 201, f 202, f 203, f 204, f 205, f 206, f 207, f 208, f 209, f 210, f 211, f 212, f 213, f 214, f 215,
  f 216, f 217, f 218, f 219, f 220, f 221, f 222, f 223, f 224, f 225, f 226, f 227, f 228, f 229, f 230, f 231, f 232, f 233, f 234, f 235, f 236, f 237, f 238, f 239,
  f 240, f 241, f 242, f 243, f 244, f 245, f 246, f 247, f 248, f 249, f 250, f 251, f 252, f 253, f 254, f 255, f 256, f 257, f 258, f 259, f 260, f 261, f 262, f 263,
  f 264, f 265, f 266, f 267, f 268, f 269, f 270, f 271, f 272, f 273, f 274, f 275, f 276, f 277, f 278, f 279, f 280, f 281, f 282, f 283, f 284, f 285, f 286, f 287,
  f 288, f 289, f 290, f 291, f 292, f 293, f 294, f 295, f 296, f 297, f 298, f 299, f 300, f 301, f 302, f 303, f 304, f 305, f 306, f 307, f 308, f 309, f 310, f 311,
  f 312, f 313, f 314, f 315, f 316, f 317, f 318, f 319, f 320, f 321, f 322, f 323, f 324, f 325, f 326, f 327, f 328, f 329, f 330, f 331, f 332, f 333, f 334, f 335,
  f 336, f 337, f 338, f 339, f 340, f 341, f 342, f 343, f 344, f 345, f 346, f 347, f 348, f 349, f 350, f 351, f 352, f 353, f 354, f 355, f 356, f 357, f 358, f 359,
  f 360, f 361, f 362, f 363, f 364, f 365, f 366, f 367, f 368, f 369, f 370, f 371, f 372, f 373, f 374, f 375, f 376, f 377, f 378, f 379, f 380, f 381, f 382, f 383,
  f 384, f 385, f 386, f 387, f 388, f 389, f 390, f 391, f 392, f 393, f 394, f 395, f 396, f 397, f 398, f 399, f 400, f 401, f 402, f 403, f 404, f 405, f 406, f 407,
  f 408, f 409, f 410, f 411, f 412, f 413, f 414, f 415, f 416, f 417, f 418, f 419, f 420, f 421, f 422, f 423, f 424, f 425, f 426, f 427, f 428, f 429, f 430, f 431,
  f 432, f 433, f 434, f 435, f 436, f 437, f 438, f 439, f 440, f 441, f 442, f 443, f 444, f 445, f 446, f 447, f 448, f 449, f 450, f 451, f 452, f 453, f 454, f 455,
  f 456, f 457, f 458, f 459, f 460, f 461, f 462, f 463, f 464, f 465, f 466, f 467, f 468, f 469, f 470, f 471, f 472, f 473, f 474, f 475, f 476, f 477, f 478, f 479,
  f 480, f 481, f 482, f 483, f 484, f 485, f 486, f 487, f 488, f 489, f 490, f 491, f 492, f 493, f 494, f 495, f 496, f 497, f 498, f 499, f 500, f 501, f 502, f 503,
  f 504, f 505, f 506, f 507, f 508, f 509, f 510, f 511, f 512, f 513, f 514, f 515, f 516, f 517, f 518, f 519, f 520, f 521, f 522, f 523, f 524, f 525, f 526, f 527,
  f 528, f 529, f 530, f 531, f 532, f 533, f 534, f 535, f 536, f 537, f 538, f 539, f 540, f 541, f 542, f 543, f 544, f 545, f 546, f 547, f 548, f 549, f 550, f 551,
  f 552, f 553, f 554, f 555, f 556, f 557, f 558, f 559, f 560, f 561, f 562, f 563, f 564, f 565, f 566, f 567, f 568, f 569, f 570, f 571, f 572, f 573, f 574, f 575,
  f 576, f 577, f 578, f 579, f 580, f 581, f 582, f 583, f 584, f 585, f 586, f 587, f 588, f 589, f 590, f 591, f 592, f 593, f 594, f 595, f 596, f 597, f 598, f 599,
  f 600, f 601, f 602, f 603, f 604, f 605, f 606, f 607, f 608, f 609, f 610, f 611, f 612, f 613, f 614, f 615, f 616, f 617, f 618, f 619, f 620, f 621, f 622, f 623,
  f 624, f 625, f 626, f 627, f 628, f 629, f 630, f 631, f 632, f 633, f 634, f 635, f 636, f 637, f 638, f 639, f 640, f 641, f 642, f 643, f 644, f 645], []⟩
theorem hpF_eq {lim nur : Int} {la : Option Addr} {nl lc : Nat} {ask at_ : Int} {pb hb ub : Nat} {half : Int} {s19 s20 s21 s22 s24 : Value} {arr : List Value} (e : (⟨arr.toArray, []⟩ : Act) = hpF lim nur la nl lc ask at_ pb hb ub half s19 s20 s21 s22 s24 (fun k => arr.getD k undef)) : ∃ f, (⟨arr.toArray, []⟩ : Act) = hpF lim nur la nl lc ask at_ pb hb ub half s19 s20 s21 s22 s24 f := ⟨_, e⟩
theorem hpF_eqP {lim nur : Int} {la : Option Addr} {nl lc : Nat} {ask at_ : Int} {pb hb ub : Nat} {half : Int} {s19 s20 s21 s22 s24 : Value} {arr : List Value} (P : (Nat → Value) → Prop) (e : (⟨arr.toArray, []⟩ : Act) = hpF lim nur la nl lc ask at_ pb hb ub half s19 s20 s21 s22 s24 (fun k => arr.getD k undef)) (h : P (fun k => arr.getD k undef)) : ∃ f, (⟨arr.toArray, []⟩ : Act) = hpF lim nur la nl lc ask at_ pb hb ub half s19 s20 s21 s22 s24 f ∧ P f := ⟨_, e, h⟩
theorem wp_hpF {P : Program} {c : Code} {Q : Exit → Act → World → Prop} {w : World} {lim nur : Int} {la : Option Addr} {nl lc : Nat} {ask at_ : Int} {pb hb ub : Nat} {half : Int} {s19 s20 s21 s22 s24 : Value} {arr : List Value} (e : (⟨arr.toArray, []⟩ : Act) = hpF lim nur la nl lc ask at_ pb hb ub half s19 s20 s21 s22 s24 (fun k => arr.getD k undef)) (h : ∀ f, c.wp P Q (hpF lim nur la nl lc ask at_ pb hb ub half s19 s20 s21 s22 s24 f) w) : c.wp P Q ⟨arr.toArray, []⟩ w := by
 rw [e]
 exact h _
theorem wp_hpF1 {P : Program} {c : Code} {Q : Exit → Act → World → Prop} {w : World} {lim nur : Int} {la : Option Addr} {nl lc : Nat} {ask at_ : Int} {pb hb ub : Nat} {half : Int} {s19 s20 s21 s22 s24 : Value} {arr : List Value} (k : Nat) (v : Value) (e : (⟨arr.toArray, []⟩ : Act) = hpF lim nur la nl lc ask at_ pb hb ub half s19 s20 s21 s22 s24 (fun k => arr.getD k undef)) (ek : arr.getD k undef = v) (h : ∀ f, f k = v → c.wp P Q (hpF lim nur la nl lc ask at_ pb hb ub half s19 s20 s21 s22 s24 f) w) : c.wp P Q ⟨arr.toArray, []⟩ w := by
 rw [e]
 exact h _ ek

/-- What the law knows all along. -/
structure HpC (w0 : World) (p : Prg) (cp : Option Addr) (cc : Nat) (mv : Value) (pb : Nat) (lim nur half : Int) : Prop where
 ok : p.Ok
 cls : ∃ cb co, ClsAt w0 (.slice cp p.cs.length cc) cb co p.cs
 box : w0.heap[pb]? = some (.cells #[.slice cp p.cs.length cc, mv] 25)
 bd : 0 ≤ nur ∧ nur ≤ lim ∧ lim ≤ 65536
 hf : half = (lim - nur) / 2
/-- The loop's relation. -/
def HpI (w0 : World) (B : Nat) (L : HL) (hv hmv : Value) (p : Prg) (lim nur : Int) (la : Option Addr) (nl lc : Nat) (ask at_ : Int) (pb ub : Nat) (half : Int) (a : Act) (w : World) : Prop :=
 ∃ (S : Hp) (ov rv yv tv : Value) (ps : List OP) (rs : List Int) (ys : List Bool) (ts : List Int) (u0 u1 : Int) (i : Nat), i ≤ nl ∧ HpW w0 w B ub L hv hmv S ov rv yv tv ps rs ys ts u0 u1 ∧ HpT S ps rs ys ts u0 u1 nur half p.cs i ∧ ∃ f, a = hpF lim nur la nl lc ask at_ pb L.hb ub half ov rv yv tv (.int .i64 i) f
/-- What stands behind a round, ahead of i++. -/
def HpR (w0 : World) (B : Nat) (L : HL) (hv hmv : Value) (p : Prg) (lim nur : Int) (la : Option Addr) (nl lc : Nat) (ask at_ : Int) (pb ub : Nat) (half : Int) (i : Nat) (a : Act) (w : World) : Prop :=
 ∃ (S : Hp) (ov rv yv tv : Value) (ps : List OP) (rs : List Int) (ys : List Bool) (ts : List Int) (u0 u1 : Int), HpW w0 w B ub L hv hmv S ov rv yv tv ps rs ys ts u0 u1 ∧ HpT S ps rs ys ts u0 u1 nur half p.cs (i + 1) ∧ ∃ f, a = hpF lim nur la nl lc ask at_ pb L.hb ub half ov rv yv tv (.int .i64 i) f
theorem cls_slice {w0 : World} {p : Prg} {cp : Option Addr} {cc : Nat} {mv : Value} {pb : Nat} {lim nur half : Int} (h : HpC w0 p cp cc mv pb lim nur half) {w : World} (hu : Upd [] w0 w) : w.cell? ⟨pb, 0, none⟩ = some (.slice cp p.cs.length cc) ∧ w.cell? ⟨pb, 1, none⟩ = some mv := by
 have hb := hu.heap h.box (by simp)
 exact ⟨by rw [cell_of hb]; rfl, by rw [cell_of hb]; rfl⟩

set_option maxRecDepth 100000 in
theorem anew_bad (E : Nat → Addr) (lim : Int) (w : World) (hS : SentAll w E) (hl : lim < 0 ∨ 65536 < lim) :
  Calls Tryd.prog 30 #[.int .i64 lim] w fun e w' => e = .returned (.tuple #[.pointer none, sErr E 10]) ∧ Upd [] w w' := by
 have e10 : w.cell? ⟨0, 0, none⟩ = some (sErr E 10) := hS.g 10 (by omega)
 unfold sErr at e10 ⊢
 have hor : decide (lim < 0) = true ∨ (decide (lim < 0) = false ∧ decide ((65536 : Int) < lim) = true) := by
  by_cases h0 : lim < 0
  ·exact .inl (decide_eq_true h0)
  ·exact .inr ⟨decide_eq_false h0, decide_eq_true (by omega)⟩
 clear hS hl
 go_enter Tryd.func30, Tryd.ntmps30
 rcases hor with d0 | ⟨d0, d1⟩
 all_goals
  go_upto_region 2 with fail
  go_quiet (fail)
  go_wp2_with fail
  go_ret2
  exact ⟨rfl, (Upd.refl [] w).drewN nq⟩
set_option maxRecDepth 100000 in
theorem hnew_bad (E : Nat → Addr) (cv0 mv0 : Value) (lim nur : Int) (w : World) (hS : SentAll w E) (hl : lim < 0 ∨ 65536 < lim ∨ nur < 0 ∨ lim < nur) :
  Calls Tryd.prog 7 #[.agg #[cv0, mv0], .int .i64 lim, .int .i64 nur] w fun e w' => e = .returned (.tuple #[.pointer none, sErr E 10]) ∧ Upd [] w w' := by
 have HS := Lib.hid hS
 clear hS
 unfold sErr
 go_enter Tryd.func7, Tryd.ntmps7
 by_cases h0 : lim < 0 ∨ 65536 < lim
 ·have HA := Lib.hid (fun w hS => anew_bad E lim w hS h0)
  clear h0 hl
  unfold sErr at HA
  go_wp2_with fail
  refine (HA.out _ (HS.out.upd ((Upd.refl [] w).alloc _))).mono ?_
  rintro e w1 ⟨rfl, hu1⟩
  go_wp2_with fail
  go_ret2
  exact ⟨rfl, ((Upd.refl [] w).alloc _).trans hu1⟩
 ·have HA := Lib.hid (fun w => new_ok lim w (by omega) (by omega))
  have hor : decide (nur < 0) = true ∨ (decide (nur < 0) = false ∧ decide (lim < nur) = true) := by
   by_cases h1 : nur < 0
   ·exact .inl (decide_eq_true h1)
   ·exact .inr ⟨decide_eq_false h1, decide_eq_true (by omega)⟩
  clear h0 hl
  go_wp2_with fail
  refine (HA.out _).mono ?_
  rintro e w1 ⟨rfl, hA, hu1, hz⟩
  have hU := ((Upd.refl [] w).alloc (.cells #[cv0, mv0] 25)).trans hu1
  have e10 : w1.cell? ⟨0, 0, none⟩ = some (sErr E 10) := (HS.out.upd hU).g 10 (by omega)
  have HU := Lib.hid hU
  unfold sErr at e10
  clear hA hu1 hz hU HA
  rcases hor with d0 | ⟨d0, d1⟩
  all_goals
   go_upto_region 5 with fail
   go_quiet (fail)
   go_wp2_with fail
   go_ret2
   exact ⟨rfl, HU.out.drewN nq⟩
end Go.Proofs.YtbcoejmiihgfoaaDoor
