/- A part of a proof; the last text of this claim says of what. -/
import Derived.Test.YtolehnkoocnenaaGreatDoorV27
import Derived.RangeFuncBox
import Derived.RangeFuncLeaves
import Derived.WalkKit
import Derived.OwnWalkIn
import Derived.TacticsInMore
import Derived.LoopNIn
import Derived.LoopIn
import Derived.RegionIn
import Derived.RangeFuncCalls
import Derived.RangeFuncWrites
import Derived.Stop.RegionWithIn
import Derived.Lib.Repeat
set_option linter.unusedVariables false
set_option linter.unusedSimpArgs false
set_option linter.unusedSectionVars false
namespace Gb
open Go Go.RowKit Go.Sx
theorem rT_0 : rT 0 = [48] := by
  unfold rT
  rw [if_pos (show (0 : Rat).den = 1 from rfl)]
  show iD 0 = _
  unfold iD
  rw [if_neg (by decide)]
  exact dec_0
theorem rtP_0 : rtP 0 = .val (.string ⟨#[48]⟩) := by unfold rtP; rw [rT_0]; rfl
def e0 : PV := .val (.string ⟨#[]⟩)
theorem isIv_spec {a b : List UInt8} (h : isIv a b = true) : isRat a = true ∧ isRat b = true ∧ ratOf a ≤ ratOf b := by
  unfold isIv at h
  simp only [Bool.and_eq_true, decide_eq_true_eq] at h
  exact ⟨h.1.1, h.1.2, h.2⟩
theorem isIv_rT {x y : Rat} (h : x ≤ y) : isIv (rT x) (rT y) = true := by
  unfold isIv; rw [isRat_rT, isRat_rT, ratOf_rT, ratOf_rT]; simp [h]
theorem ivQ_iv (p : Rat × Rat) : ivQ p = ivP (rT p.1) (rT p.2) := rfl
theorem w4 : IntKind.i64.wrap 0 = 0 ∧ IntKind.i64.wrap 1 = 1 ∧ IntKind.i64.wrap 2 = 2 ∧ IntKind.i64.wrap 3 = 3 := by decide
def cC (r0 r1 r2 r3 : Rat) (n : Nat) : List PV := [if 0 < n then rtP r0 else e0, if 1 < n then rtP r1 else e0, if 2 < n then rtP r2 else e0, if 3 < n then rtP r3 else e0]
end Gb
namespace Go.Proofs.YtolehnkoocnenaaGreatDoor.S
open Go Go.Sx Go.RowKit Gb Go.Shelf
set_option maxRecDepth 100000 in
set_option maxHeartbeats 4000000 in
theorem corners_ok (g : FuncId) (f : Rat → Rat → Rat) (a1 a2 b1 b2 : Rat) (ha : a1 ≤ a2) (hb : b1 ≤ b2) (sa1 : Sz 1500 a1) (sa2 : Sz 1500 a2) (sb1 : Sz 1500 b1) (sb2 : Sz 1500 b2)
    (hm : ∀ x y, (x = a1 ∨ x = a2) → (y = b1 ∨ y = b2) → Meets Tryz.prog Gd g [rtP x, rtP y] (.tup [rtP (f x y), iP 0]) ∧ Sz 4000 (f x y)) :
    Meets Tryz.prog Gd 80 [.clo g [] [], ivQ (a1, a2), ivQ (b1, b2)] (.tup [ivQ (endsQ (f a1 b1, f a1 b1) [f a1 b2, f a2 b1, f a2 b2]), iP 0]) := by
  refine meets_of_vc (Y := { sf := [133] }) (N := 56) (rs := [.cell 6 25, .tmp 7]) mix tk gd Tryz.func80 rfl (by kernel_rfl) rfl rfl (by simp) (by kernel_rfl) ?_
  have la1 := rT_len sa1
  have la2 := rT_len sa2
  have lb1 := rT_len sb1
  have lb2 := rT_len sb2
  simp (maxSteps := 10000000) only [↓sx, sx, ↓ty, ↓reduceIte, Nat.reduceEqDiff, Nat.reduceAdd, ls, Nat.reduceAdd, Nat.le_refl, pi]
  refine CallT.mk (ivalid2_n (rT a1) (rT a2) (by omega) (by omega)) ?_
  rw [isIv_rT ha]
  simp (maxSteps := 10000000) only [↓sx, sx, ↓ty, ↓reduceIte, Nat.reduceEqDiff, Nat.reduceAdd, Nat.reduceLT, ls, Nat.reduceAdd, Nat.le_refl]
  refine CallT.mk (ivalid2_n (rT b1) (rT b2) (by omega) (by omega)) ?_
  rw [isIv_rT hb]
  simp (maxSteps := 10000000) only [↓sx, sx, ↓ty, ↓reduceIte, Nat.reduceEqDiff, Nat.reduceAdd, Nat.reduceLeDiff, Nat.reduceLT, ne_eq, not_false_eq_true, ls, and_self, Nat.reduceAdd, Nat.le_refl]
  have e00 : e0 = .val (.string ⟨#[]⟩) := rfl
  refine loopK_of (fun i : Nat => [(0, .p (.clo g [] [])), (5, .box 5 0), (6, .box 6 0), (8, .box 8 0), (26, .p (.agg [rtP a1, rtP a2])), (27, .p (.val (.int .i64 (i : Nat))))]) (fun i => [(5, (25, [rtP b1, rtP b2])), (6, (25, [e0, e0])), (8, (133, cC (f a1 b1) (f a1 b2) (f a2 b1) (f a2 b2) (2 * i)))]) (fun _ => []) (fun i => i ≤ 2) (fun i => 2 - i) 0 (Nat.zero_le _) ?_ ?_
  · simp (maxSteps := 10000000) only [isE_nil, is_cons, bo_p, bo_box, any_cons', all_cons', all_nil', Bool.true_or, Bool.or_true, ↓sx, sx, ↓reduceIte, Nat.reduceEqDiff, Nat.reduceBeqDiff]
    trivial
  · intro i hi
    have hi3 : i = 0 ∨ i = 1 ∨ i = 2 := by omega
    rcases hi3 with rfl | rfl | rfl
    · simp (maxSteps := 10000000) only [↓sx, sx, ↓ty, ↓reduceIte, Nat.reduceEqDiff, Nat.reduceAdd, Nat.reduceLeDiff, Nat.reduceLT, Nat.reduceMul, ne_eq, not_false_eq_true, pc, ls, and_self, Nat.reduceAdd, Nat.le_refl, cC, Nat.reduceLT, e00, Int.cast_ofNat_Int, Int.reduceLT, decide_true]
      refine ⟨by omega, loopK_of (fun k : Nat => [(0, .p (.clo g [] [])), (5, .box 5 0), (6, .box 6 0), (8, .box 8 0), (26, .p (.agg [rtP a1, rtP a2])), (27, .p (.val (.int .i64 0))), (9, .p (.val (.int .i64 0))), (10, .p (rtP a1)), (35, .p (.agg [rtP b1, rtP b2])), (36, .p (.val (.int .i64 (k : Nat))))]) (fun k => [(5, (25, [rtP b1, rtP b2])), (6, (25, [e0, e0])), (8, (133, cC (f a1 b1) (f a1 b2) (f a2 b1) (f a2 b2) (0 + k)))]) (fun _ => []) (fun k => k ≤ 2) (fun k => 2 - k) 0 (Nat.zero_le _) ?_ ?_⟩
      · simp (maxSteps := 10000000) only [isE_nil, is_cons, bo_p, bo_box, any_cons', all_cons', all_nil', Bool.true_or, Bool.or_true, ↓sx, sx, ↓reduceIte, Nat.reduceEqDiff, Nat.reduceBeqDiff]
        trivial
      · intro k hk
        have hk3 : k = 0 ∨ k = 1 ∨ k = 2 := by omega
        rcases hk3 with rfl | rfl | rfl
        · simp (maxSteps := 10000000) only [↓sx, sx, ↓ty, ↓reduceIte, Nat.reduceEqDiff, Nat.reduceAdd, Nat.reduceLeDiff, Nat.reduceLT, pc, ls, and_self, Nat.reduceAdd, cC, Nat.reduceLT, e00, Int.cast_ofNat_Int, Int.reduceLT, decide_true, Int.reduceMul, Int.reduceAdd, w4]
          refine ⟨by omega, CallT.mk (hm a1 b1 (.inl rfl) (.inl rfl)).1 ?_⟩
          simp (maxSteps := 10000000) only [↓sx, sx, ↓ty, ↓reduceIte, Nat.reduceEqDiff, Nat.reduceAdd, Nat.reduceLeDiff, Nat.reduceLT, pc, ls, bs, and_self, Nat.reduceAdd, Nat.reduceLT, e00, Int.reduceAdd, w4]
          refine ⟨by omega, NextK.mk 1 (by omega) (by omega) ?_⟩
          simp (maxSteps := 10000000) only [isE_nil, is_cons, bo_p, bo_box, any_cons', all_cons', all_nil', Bool.true_or, Bool.or_true, ↓sx, sx, ↓reduceIte, Nat.reduceEqDiff, Nat.reduceBeqDiff]
          trivial
        · simp (maxSteps := 10000000) only [↓sx, sx, ↓ty, ↓reduceIte, Nat.reduceEqDiff, Nat.reduceAdd, Nat.reduceLT, pc, ls, and_self, Nat.reduceAdd, Nat.le_refl, cC, Nat.reduceLT, e00, Int.cast_ofNat_Int, Int.reduceLT, decide_true, Int.reduceMul, Int.reduceAdd, w4, Int.reduceToNat]
          refine ⟨by omega, CallT.mk (hm a1 b2 (.inl rfl) (.inr rfl)).1 ?_⟩
          simp (maxSteps := 10000000) only [↓sx, sx, ↓ty, ↓reduceIte, Nat.reduceEqDiff, Nat.reduceAdd, Nat.reduceLeDiff, Nat.reduceLT, pc, ls, bs, and_self, Nat.reduceAdd, Nat.reduceLT, e00, Int.reduceAdd, w4, Int.reduceToNat]
          refine ⟨by omega, NextK.mk 2 (by omega) (by omega) ?_⟩
          simp (maxSteps := 10000000) only [isE_nil, is_cons, bo_p, bo_box, any_cons', all_cons', all_nil', Bool.true_or, Bool.or_true, ↓sx, sx, ↓reduceIte, Nat.reduceEqDiff, Nat.reduceBeqDiff]
          trivial
        · simp (maxSteps := 10000000) only [↓sx, sx, ↓reduceIte, Nat.reduceEqDiff, Nat.reduceAdd, Nat.reduceLT, pc, Nat.reduceAdd, cC, Nat.reduceLT, e00, Int.cast_ofNat_Int, Int.reduceLT, decide_false, Int.reduceAdd, w4]
          refine NextK.mk 1 (by omega) (by omega) ?_
          simp (maxSteps := 10000000) only [isE_nil, is_cons, bo_p, bo_box, any_cons', all_cons', all_nil', Bool.true_or, Bool.or_true, ↓sx, sx, ↓reduceIte, Nat.reduceEqDiff, Nat.reduceBeqDiff]
          trivial
    · simp (maxSteps := 10000000) only [↓sx, sx, ↓ty, ↓reduceIte, Nat.reduceEqDiff, Nat.reduceAdd, Nat.reduceLeDiff, Nat.reduceLT, ne_eq, not_false_eq_true, pc, ls, and_self, Nat.reduceAdd, Nat.le_refl, cC, Nat.reduceLT, e00, Int.cast_ofNat_Int, Int.reduceLT, decide_true, Int.reduceToNat]
      refine ⟨by omega, loopK_of (fun k : Nat => [(0, .p (.clo g [] [])), (5, .box 5 0), (6, .box 6 0), (8, .box 8 0), (26, .p (.agg [rtP a1, rtP a2])), (27, .p (.val (.int .i64 1))), (9, .p (.val (.int .i64 1))), (10, .p (rtP a2)), (35, .p (.agg [rtP b1, rtP b2])), (36, .p (.val (.int .i64 (k : Nat))))]) (fun k => [(5, (25, [rtP b1, rtP b2])), (6, (25, [e0, e0])), (8, (133, cC (f a1 b1) (f a1 b2) (f a2 b1) (f a2 b2) (2 + k)))]) (fun _ => []) (fun k => k ≤ 2) (fun k => 2 - k) 0 (Nat.zero_le _) ?_ ?_⟩
      · simp (maxSteps := 10000000) only [isE_nil, is_cons, bo_p, bo_box, any_cons', all_cons', all_nil', Bool.true_or, Bool.or_true, ↓sx, sx, ↓reduceIte, Nat.reduceEqDiff, Nat.reduceBeqDiff]
        trivial
      · intro k hk
        have hk3 : k = 0 ∨ k = 1 ∨ k = 2 := by omega
        rcases hk3 with rfl | rfl | rfl
        · simp (maxSteps := 10000000) only [↓sx, sx, ↓ty, ↓reduceIte, Nat.reduceEqDiff, Nat.reduceAdd, Nat.reduceLeDiff, Nat.reduceLT, pc, ls, and_self, Nat.reduceAdd, cC, Nat.reduceLT, e00, Int.cast_ofNat_Int, Int.reduceLT, decide_true, Int.reduceMul, Int.reduceAdd, w4]
          refine ⟨by omega, CallT.mk (hm a2 b1 (.inr rfl) (.inl rfl)).1 ?_⟩
          simp (maxSteps := 10000000) only [↓sx, sx, ↓ty, ↓reduceIte, Nat.reduceEqDiff, Nat.reduceAdd, Nat.reduceLeDiff, Nat.reduceLT, pc, ls, bs, and_self, Nat.reduceAdd, Nat.reduceLT, e00, Int.reduceAdd, w4, Int.reduceToNat]
          refine ⟨by omega, NextK.mk 1 (by omega) (by omega) ?_⟩
          simp (maxSteps := 10000000) only [isE_nil, is_cons, bo_p, bo_box, any_cons', all_cons', all_nil', Bool.true_or, Bool.or_true, ↓sx, sx, ↓reduceIte, Nat.reduceEqDiff, Nat.reduceBeqDiff]
          trivial
        · simp (maxSteps := 10000000) only [↓sx, sx, ↓ty, ↓reduceIte, Nat.reduceEqDiff, Nat.reduceAdd, Nat.reduceLT, pc, ls, and_self, Nat.reduceAdd, Nat.le_refl, cC, Nat.reduceLT, e00, Int.cast_ofNat_Int, Int.reduceLT, decide_true, Int.reduceMul, Int.reduceAdd, w4, Int.reduceToNat]
          refine ⟨by omega, CallT.mk (hm a2 b2 (.inr rfl) (.inr rfl)).1 ?_⟩
          simp (maxSteps := 10000000) only [↓sx, sx, ↓ty, ↓reduceIte, Nat.reduceEqDiff, Nat.reduceAdd, Nat.reduceLT, pc, ls, bs, and_self, Nat.reduceAdd, Nat.le_refl, Nat.reduceLT, e00, Int.reduceAdd, w4, Int.reduceToNat]
          refine ⟨by omega, NextK.mk 2 (by omega) (by omega) ?_⟩
          simp (maxSteps := 10000000) only [isE_nil, is_cons, bo_p, bo_box, any_cons', all_cons', all_nil', Bool.true_or, Bool.or_true, ↓sx, sx, ↓reduceIte, Nat.reduceEqDiff, Nat.reduceBeqDiff]
          trivial
        · simp (maxSteps := 10000000) only [↓sx, sx, ↓reduceIte, Nat.reduceEqDiff, Nat.reduceAdd, Nat.reduceLT, pc, Nat.reduceAdd, cC, Nat.reduceLT, e00, Int.cast_ofNat_Int, Int.reduceLT, decide_false, Int.reduceAdd, w4]
          refine NextK.mk 2 (by omega) (by omega) ?_
          simp (maxSteps := 10000000) only [isE_nil, is_cons, bo_p, bo_box, any_cons', all_cons', all_nil', Bool.true_or, Bool.or_true, ↓sx, sx, ↓reduceIte, Nat.reduceEqDiff, Nat.reduceBeqDiff]
          trivial
    · simp (maxSteps := 10000000) only [↓sx, sx, ↓ty, ↓reduceIte, Nat.reduceEqDiff, Nat.reduceLT, Nat.reduceMul, pc, ls, cC, Nat.reduceLT, e00, Int.cast_ofNat_Int, Int.reduceLT, decide_false, Int.reduceToNat]
      have k11 := (hm a1 b1 (.inl rfl) (.inl rfl)).2
      have k12 := (hm a1 b2 (.inl rfl) (.inr rfl)).2
      have k21 := (hm a2 b1 (.inr rfl) (.inl rfl)).2
      have k22 := (hm a2 b2 (.inr rfl) (.inr rfl)).2
      refine ⟨by omega, CallT.mk (ends_n (f a1 b1) [f a1 b2, f a2 b1, f a2 b2] k11 (by simp [k12, k21, k22]) (by simp)) ?_⟩
      simp (maxSteps := 10000000) only [↓sx, sx, ↓ty, ↓reduceIte, Nat.reduceEqDiff, Nat.reduceAdd, pc, ls, bs, and_self, Nat.reduceAdd, Nat.le_refl, pi]
set_option maxRecDepth 100000 in
theorem corners_no (g : FuncId) (a1 a2 b1 b2 : List UInt8) (ha1 : a1.length < 90000) (ha2 : a2.length < 90000) (hb1 : b1.length < 90000) (hb2 : b2.length < 90000) (h : (isIv a1 a2 && isIv b1 b2) = false) :
    Meets Tryz.prog Gd 80 [.clo g [] [], ivP a1 a2, ivP b1 b2] (.tup [ivP [] [], iP 1]) := by
  refine meets_of_vc (Y := { sf := [133] }) (N := 56) (rs := [.cell 6 25, .tmp 7]) mix tk gd Tryz.func80 rfl (by kernel_rfl) rfl rfl (by simp) (by kernel_rfl) ?_
  simp (maxSteps := 10000000) only [↓sx, sx, ↓ty, ↓reduceIte, Nat.reduceEqDiff, Nat.reduceAdd, ls, Nat.reduceAdd, Nat.le_refl, pi]
  refine CallT.mk (ivalid2_n a1 a2 ha1 ha2) ?_
  cases h1 : isIv a1 a2 with
  | false =>
    simp (maxSteps := 10000000) only [↓sx, sx, ↓ty, ↓reduceIte, Nat.reduceEqDiff, Nat.reduceAdd, Nat.reduceLT, pc, ls, bs, and_self, Nat.reduceAdd, Nat.le_refl, pi]
  | true =>
    rw [h1, Bool.true_and] at h
    simp (maxSteps := 10000000) only [↓sx, sx, ↓ty, ↓reduceIte, Nat.reduceEqDiff, Nat.reduceAdd, Nat.reduceLT, ls, Nat.reduceAdd, Nat.le_refl]
    refine CallT.mk (ivalid2_n b1 b2 hb1 hb2) ?_
    rw [h]
    simp (maxSteps := 10000000) only [↓sx, sx, ↓ty, ↓reduceIte, Nat.reduceEqDiff, Nat.reduceAdd, Nat.reduceLT, pc, ls, bs, and_self, Nat.reduceAdd, Nat.le_refl, pi]
end Go.Proofs.YtolehnkoocnenaaGreatDoor.S
namespace Gb
open Go Go.RowKit Go.Sx
def corQ (f : Rat → Rat → Rat) (a1 a2 b1 b2 : Rat) : Rat × Rat := endsQ (f a1 b1, f a1 b1) [f a1 b2, f a2 b1, f a2 b2]
def icorP (f : Rat → Rat → Rat) (a1 a2 b1 b2 : List UInt8) : PV := if isIv a1 a2 && isIv b1 b2 then .tup [ivQ (corQ f (ratOf a1) (ratOf a2) (ratOf b1) (ratOf b2)), iP 0] else .tup [ivP [] [], iP 1]
def zeroIn (a1 a2 : List UInt8) : Bool := isIv a1 a2 && !decide (0 < ratOf a1) && !decide (ratOf a2 < 0)
def idivP (a1 a2 b1 b2 : List UInt8) : PV := if isIv a1 a2 && zeroIn b1 b2 then .tup [ivP [] [], iP 16] else icorP (· / ·) a1 a2 b1 b2
theorem ratOf_0 : ratOf [48] = 0 := by
  have := ratOf_rT 0
  rwa [rT_0] at this
theorem isRat_0 : isRat [48] = true := by
  have := isRat_rT 0
  rwa [rT_0] at this
theorem Sz0 (k : Nat) (hk : 1 ≤ k) : Sz k 0 := Sz.int (z := 0) (by rw [Int.natAbs_zero, Lw_zero]; omega) hk
end Gb
namespace Go.Proofs.YtolehnkoocnenaaGreatDoor.S
open Go Go.Sx Go.RowKit Gb Go.Shelf
theorem rop_q {F : FuncId} {f : Rat → Rat → Rat} (h : ∀ a b : List UInt8, a.length < 90000 → b.length < 90000 → Meets Tryz.prog Gd F [strP a, strP b] (ropP f a b)) (x y : Rat) (hx : Sz 4000 x) (hy : Sz 4000 y) :
    Meets Tryz.prog Gd F [rtP x, rtP y] (.tup [rtP (f x y), iP 0]) := by
  have := h (rT x) (rT y) (by have := rT_len hx; omega) (by have := rT_len hy; omega)
  unfold ropP at this
  rw [isRat_rT, isRat_rT, ratOf_rT, ratOf_rT] at this
  exact this
theorem rdiv_q (x y : Rat) (hx : Sz 4000 x) (hy : Sz 4000 y) (h0 : y ≠ 0) : Meets Tryz.prog Gd 113 [rtP x, rtP y] (.tup [rtP (x / y), iP 0]) := by
  have := rdiv_n (rT x) (rT y) (by have := rT_len hx; omega) (by have := rT_len hy; omega)
  unfold rdivP at this
  rw [isRat_rT, isRat_rT, ratOf_rT, ratOf_rT, if_neg h0] at this
  exact this
theorem cor_q {F : FuncId} (f : Rat → Rat → Rat) (a1 a2 b1 b2 : List UInt8) (ha1 : a1.length < 13000) (ha2 : a2.length < 13000) (hb1 : b1.length < 13000) (hb2 : b2.length < 13000)
    (h : isIv a1 a2 = true → isIv b1 b2 = true → ∀ x y, Sz 1500 x → Sz 1500 y → (y = ratOf b1 ∨ y = ratOf b2) → Meets Tryz.prog Gd F [rtP x, rtP y] (.tup [rtP (f x y), iP 0]) ∧ Sz 4000 (f x y)) :
    Meets Tryz.prog Gd 80 [.clo F [] [], ivP a1 a2, ivP b1 b2] (icorP f a1 a2 b1 b2) := by
  unfold icorP
  cases hv : (isIv a1 a2 && isIv b1 b2) with
  | false => exact corners_no F a1 a2 b1 b2 (by omega) (by omega) (by omega) (by omega) hv
  | true =>
    obtain ⟨h1, h2⟩ := and_split hv
    replace h := h h1 h2
    obtain ⟨v1, v2, v3⟩ := isIv_spec h1
    obtain ⟨v4, v5, v6⟩ := isIv_spec h2
    obtain ⟨a1, rfl, sa1⟩ := rT_of v1
    obtain ⟨a2, rfl, sa2⟩ := rT_of v2
    obtain ⟨b1, rfl, sb1⟩ := rT_of v4
    obtain ⟨b2, rfl, sb2⟩ := rT_of v5
    rw [ratOf_rT, ratOf_rT] at h v3 v6
    rw [ratOf_rT, ratOf_rT, ratOf_rT, ratOf_rT]
    have sa1 := sa1.mono (m := 1500) (by omega)
    have sa2 := sa2.mono (m := 1500) (by omega)
    have sb1 := sb1.mono (m := 1500) (by omega)
    have sb2 := sb2.mono (m := 1500) (by omega)
    refine corners_ok F f a1 a2 b1 b2 v3 v6 sa1 sa2 sb1 sb2 fun x y hx hy => ?_
    refine h x y ?_ ?_ hy
    · rcases hx with rfl | rfl
      · exact sa1
      · exact sa2
    · rcases hy with rfl | rfl
      · exact sb1
      · exact sb2
set_option maxRecDepth 100000 in
theorem isub2_n (a1 a2 b1 b2 : List UInt8) (ha1 : a1.length < 13000) (ha2 : a2.length < 13000) (hb1 : b1.length < 13000) (hb2 : b2.length < 13000) : Meets Tryz.prog Gd 35 [ivP a1 a2, ivP b1 b2] (icorP (· - ·) a1 a2 b1 b2) := by
  refine meets_of_vc (Y := {}) (N := 11) (rs := [.cell 4 25, .tmp 5]) mix tk gd Tryz.func35 rfl (by kernel_rfl) rfl rfl (by simp) (by kernel_rfl) ?_
  simp (maxSteps := 10000000) only [↓sx, sx, ↓ty, ↓reduceIte, Nat.reduceEqDiff, Nat.reduceAdd, ls, Nat.reduceAdd, Nat.le_refl, pi]
  refine CallT.mk (cor_q (· - ·) a1 a2 b1 b2 ha1 ha2 hb1 hb2 fun _ _ x y hx hy _ => ⟨rop_q rsub_n x y (hx.mono (by omega)) (hy.mono (by omega)), (hx.sub hy).mono (by omega)⟩) ?_
  unfold icorP
  split
  · simp (maxSteps := 10000000) only [↓sx, sx, ↓ty, ↓reduceIte, Nat.reduceEqDiff, Nat.reduceAdd, pc, ls, bs, and_self, Nat.reduceAdd, Nat.le_refl, pi]
  · simp (maxSteps := 10000000) only [↓sx, sx, ↓ty, ↓reduceIte, Nat.reduceEqDiff, Nat.reduceAdd, pc, ls, bs, and_self, Nat.reduceAdd, Nat.le_refl, pi]
theorem zhas_n (a b : List UInt8) (ha : a.length < 36000) (hb : b.length < 36000) : Meets Tryz.prog Gd 37 [ivP a b, strP [48]] (.val (.bool (zeroIn a b))) := by
  have := has_n a b [48] ha hb (by simp)
  rw [isRat_0, ratOf_0, Bool.and_true] at this
  exact this
set_option maxRecDepth 100000 in
set_option maxHeartbeats 4000000 in
theorem idiv2_n (a1 a2 b1 b2 : List UInt8) (ha1 : a1.length < 13000) (ha2 : a2.length < 13000) (hb1 : b1.length < 13000) (hb2 : b2.length < 13000) : Meets Tryz.prog Gd 89 [ivP a1 a2, ivP b1 b2] (idivP a1 a2 b1 b2) := by
  refine meets_of_vc (Y := {}) (N := 18) (rs := [.cell 4 25, .tmp 5]) mix tk gd Tryz.func89 rfl (by kernel_rfl) rfl rfl (by simp) (by kernel_rfl) ?_
  have main : (isIv a1 a2 && zeroIn b1 b2) = false → Meets Tryz.prog Gd 80 [.clo 113 [] [], ivP a1 a2, ivP b1 b2] (icorP (· / ·) a1 a2 b1 b2) := by
    intro h
    refine cor_q (· / ·) a1 a2 b1 b2 ha1 ha2 hb1 hb2 fun g1 g2 x y hx hy hy2 => ⟨rdiv_q x y (hx.mono (by omega)) (hy.mono (by omega)) ?_, (hx.div hy (by omega)).mono (by omega)⟩
    obtain ⟨_, _, g3⟩ := isIv_spec g2
    unfold zeroIn at h
    rw [g1, g2] at h
    simp only [Bool.true_and, Bool.and_eq_false_iff, Bool.not_eq_false', decide_eq_true_eq] at h
    rintro rfl
    rcases hy2 with h0 | h0 <;> rw [← h0] at h g3 <;> grind
  unfold idivP
  simp (maxSteps := 10000000) only [↓sx, sx, ↓ty, ↓reduceIte, Nat.reduceEqDiff, Nat.reduceAdd, ls, Nat.reduceAdd, Nat.le_refl, pi]
  refine CallT.mk (ivalid2_n a1 a2 (by omega) (by omega)) ?_
  cases h : isIv a1 a2 with
  | false =>
    rw [Bool.false_and]
    simp only [Bool.false_eq_true, if_false]
    simp (maxSteps := 10000000) only [↓sx, sx, ↓ty, ↓reduceIte, Nat.reduceEqDiff, Nat.reduceAdd, Nat.reduceLT, ls, Nat.reduceAdd, Nat.le_refl]
    refine CallT.mk (t := ⟨⟩) (main (by rw [h]; rfl)) ?_
    unfold icorP
    split
    · simp (maxSteps := 10000000) only [↓sx, sx, ↓ty, ↓reduceIte, Nat.reduceEqDiff, Nat.reduceAdd, pc, ls, bs, and_self, Nat.reduceAdd, Nat.le_refl, pi]
    · simp (maxSteps := 10000000) only [↓sx, sx, ↓ty, ↓reduceIte, Nat.reduceEqDiff, Nat.reduceAdd, pc, ls, bs, and_self, Nat.reduceAdd, Nat.le_refl, pi]
  | true =>
    rw [Bool.true_and]
    simp (maxSteps := 10000000) only [↓sx, sx, ↓ty, ↓reduceIte, Nat.reduceEqDiff, Nat.reduceAdd, Nat.reduceLT, ls, Nat.reduceAdd, Nat.le_refl]
    refine CallT.mk (t := ⟨⟩) (zhas_n b1 b2 (by omega) (by omega)) ?_
    cases hz : zeroIn b1 b2 with
    | false =>
      simp only [Bool.false_eq_true, if_false]
      simp (maxSteps := 10000000) only [↓sx, sx, ↓ty, ↓reduceIte, Nat.reduceEqDiff, Nat.reduceAdd, ls, Nat.reduceAdd, Nat.le_refl]
      refine CallT.mk (t := ⟨⟩) (main (by rw [hz, Bool.and_false])) ?_
      unfold icorP
      split
      · simp (maxSteps := 10000000) only [↓sx, sx, ↓ty, ↓reduceIte, Nat.reduceEqDiff, Nat.reduceAdd, pc, ls, bs, and_self, Nat.reduceAdd, Nat.le_refl, pi]
      · simp (maxSteps := 10000000) only [↓sx, sx, ↓ty, ↓reduceIte, Nat.reduceEqDiff, Nat.reduceAdd, pc, ls, bs, and_self, Nat.reduceAdd, Nat.le_refl, pi]
    | true =>
      simp only [if_true]
      simp (maxSteps := 10000000) only [↓sx, sx, ↓ty, ↓reduceIte, Nat.reduceEqDiff, Nat.reduceAdd, pc, ls, bs, and_self, Nat.reduceAdd, Nat.le_refl, pi]
end Go.Proofs.YtolehnkoocnenaaGreatDoor.S
namespace Gb
open Go Go.RowKit Go.Sx
theorem rT_int (z : Int) : rT (z : Rat) = iD z := by unfold rT; rw [Rat.den_intCast, if_pos rfl, Rat.num_intCast]
end Gb
namespace Go.Proofs.YtolehnkoocnenaaGreatDoor.S
open Go Go.Sx Go.RowKit Gb Go.Shelf
theorem itoa_n (z : Int) (h1 : -9223372036854775808 ≤ z) (h2 : z ≤ 9223372036854775807) : Meets Tryz.prog Gd 170 [iP z] (siP z) := by
  refine meets_val [.int .i64 z] (.string ⟨(iD z).toArray⟩) (enters_of Tryz.func170 (by kernel_rfl) rfl) ?_ ?_
  · intro B w
    simp [siP_c, RepP]
  · intro w hw
    refine (Tryz.strconv_Itoa z h1 h2 w hw).mono ?_
    rintro e w' ⟨rfl, k, os, rfl⟩
    rw [itoa_iD]
    exact ⟨rfl, Lib.below_grow _ w (Nat.le_refl _) k os⟩
end Go.Proofs.YtolehnkoocnenaaGreatDoor.S
namespace Gb
open Go Go.RowKit Go.Sx
end Gb
namespace Go.Proofs.YtolehnkoocnenaaGreatDoor.S
open Go Go.Sx Go.RowKit Gb Go.Shelf
end Go.Proofs.YtolehnkoocnenaaGreatDoor.S
namespace Gb
open Go Go.RowKit Go.Sx
def iqP (p : Rat × Rat) : PV := .agg [.val (.bool (decide (p.1.num < 0))), nP p.1.num.natAbs, nP p.1.den, .val (.bool (decide (p.2.num < 0))), nP p.2.num.natAbs, nP p.2.den]
theorem pj : ∀ p : Rat × Rat, iqP p = .agg [.val (.bool (decide (p.1.num < 0))), .sl (wl p.1.num.natAbs).length ((wl p.1.num.natAbs).map wv), .sl (wl p.1.den).length ((wl p.1.den).map wv),
  .val (.bool (decide (p.2.num < 0))), .sl (wl p.2.num.natAbs).length ((wl p.2.num.natAbs).map wv), .sl (wl p.2.den).length ((wl p.2.den).map wv)] := fun _ => rfl
def leastQ (x y : Rat) : Rat := if x ≤ y then x else y
def mostQ (x y : Rat) : Rat := if y ≤ x then x else y
def joinQ (p q : Rat × Rat) : Rat × Rat := (leastQ p.1 q.1, mostQ p.2 q.2)
def scaleQ (p : Rat × Rat) (x : Rat) : Rat × Rat := joinQ (p.1 * x, p.1 * x) (p.2 * x, p.2 * x)
def timesQ (p q : Rat × Rat) : Rat × Rat := joinQ (scaleQ p q.1) (scaleQ p q.2)
def overQ (p q : Rat × Rat) : Rat × Rat := timesQ p (q.2⁻¹, q.1⁻¹)
def SzI (k : Nat) (p : Rat × Rat) : Prop := Sz k p.1 ∧ Sz k p.2
theorem SzI.mono {k m : Nat} {p : Rat × Rat} (h : SzI k p) (hm : k ≤ m) : SzI m p := ⟨h.1.mono hm, h.2.mono hm⟩
theorem leastQ_sz {k : Nat} {x y : Rat} (hx : Sz k x) (hy : Sz k y) : Sz k (leastQ x y) := by unfold leastQ; split <;> assumption
theorem mostQ_sz {k : Nat} {x y : Rat} (hx : Sz k x) (hy : Sz k y) : Sz k (mostQ x y) := by unfold mostQ; split <;> assumption
theorem joinQ_sz {k : Nat} {p q : Rat × Rat} (hp : SzI k p) (hq : SzI k q) : SzI k (joinQ p q) := ⟨leastQ_sz hp.1 hq.1, mostQ_sz hp.2 hq.2⟩
theorem scaleQ_sz {k : Nat} {p : Rat × Rat} {x : Rat} (hp : SzI k p) (hx : Sz k x) : SzI (2 * k) (scaleQ p x) := joinQ_sz ⟨hp.1.mul hx, hp.1.mul hx⟩ ⟨hp.2.mul hx, hp.2.mul hx⟩
theorem timesQ_sz {k : Nat} {p q : Rat × Rat} (hp : SzI k p) (hq : SzI k q) : SzI (2 * k) (timesQ p q) := joinQ_sz (scaleQ_sz hp hq.1) (scaleQ_sz hp hq.2)
theorem overQ_sz {k : Nat} {p q : Rat × Rat} (hk : 1 ≤ k) (hp : SzI k p) (hq : SzI k q) : SzI (2 * k) (overQ p q) := timesQ_sz hp ⟨hq.2.inv hk, hq.1.inv hk⟩
def rd (a : List UInt8) : Rat := if isRat a then ratOf a else 0
theorem rd_sz {a : List UInt8} {k : Nat} (h : a.length ≤ 9 * k) : Sz (k + 1) (rd a) := by
  unfold rd
  split
  · rename_i h1; exact Sz.of h1 h
  · exact (Sz.int (z := 0) (by rw [Int.natAbs_zero, Lw_zero]; omega) (by omega))
end Gb
namespace Go.Proofs.YtolehnkoocnenaaGreatDoor.S
open Go Go.Sx Go.RowKit Gb Go.Shelf
theorem least_q (x y : Rat) (hx : Sz 40000 x) (hy : Sz 40000 y) : Meets Tryz.prog Gd 150 [qP x, qP y] (qP (leastQ x y)) := by
  have := least3_n gd x y hx hy
  simp only [le_sign] at this
  exact this
theorem most_q (x y : Rat) (hx : Sz 40000 x) (hy : Sz 40000 y) : Meets Tryz.prog Gd 151 [qP x, qP y] (qP (mostQ x y)) := by
  have := most3_n gd x y hx hy
  simp only [ge_sign] at this
  exact this
set_option maxRecDepth 100000 in
set_option maxHeartbeats 4000000 in
theorem to4_n (p : Rat × Rat) (hp : SzI 40000 p) : Meets Tryz.prog Gd 41 [iqP p] (ivQ p) := by
  refine meets_of_vc (Y := {}) (N := 10) (rs := [.cell 2 25]) mix tk gd Tryz.func41 rfl (by kernel_rfl) rfl rfl (by simp) (by kernel_rfl) ?_
  simp (maxSteps := 10000000) only [↓sx, sx, ↓ty, ↓reduceIte, Nat.reduceEqDiff, Nat.reduceAdd, Nat.reduceLeDiff, ne_eq, not_false_eq_true, ls, Nat.reduceAdd, pj]
  refine CallT.mk (t := ⟨⟩) (to3_n gd p.1 (hp.1.mono (by omega))) ?_
  simp (maxSteps := 10000000) only [↓sx, sx, ↓ty, ↓reduceIte, Nat.reduceEqDiff, Nat.reduceAdd, ne_eq, not_false_eq_true, ls, Nat.reduceAdd, Nat.le_refl]
  refine CallT.mk (t := ⟨⟩) (to3_n gd p.2 (hp.2.mono (by omega))) ?_
  simp (maxSteps := 10000000) only [↓sx, sx, ↓ty, ↓reduceIte, Nat.reduceEqDiff, Nat.reduceAdd, Nat.reduceLeDiff, pc, ls, bs, and_self, Nat.reduceAdd, Nat.le_refl, pi]
set_option maxRecDepth 100000 in
set_option maxHeartbeats 4000000 in
theorem just4_n (x : Rat) : Meets Tryz.prog Gd 125 [qP x] (iqP (x, x)) := by
  refine meets_of_vc (Y := {}) (N := 6) (rs := [.cell 2 62]) mix tk gd Tryz.func125 rfl (by kernel_rfl) rfl rfl (by simp) (by kernel_rfl) ?_
  simp (maxSteps := 10000000) only [↓sx, sx, ↓ty, ↓reduceIte, Nat.reduceEqDiff, Nat.reduceAdd, Nat.reduceLeDiff, pc, ls, bs, and_self, Nat.reduceAdd, Nat.le_refl, pj]
set_option maxRecDepth 100000 in
set_option maxHeartbeats 4000000 in
theorem minus4_n (p q : Rat × Rat) (hp : SzI 40000 p) (hq : SzI 40000 q) : Meets Tryz.prog Gd 87 [iqP p, iqP q] (iqP (p.1 - q.2, p.2 - q.1)) := by
  refine meets_of_vc (Y := {}) (N := 16) (rs := [.cell 4 62]) mix tk gd Tryz.func87 rfl (by kernel_rfl) rfl rfl (by simp) (by kernel_rfl) ?_
  simp (maxSteps := 10000000) only [↓sx, sx, ↓ty, ↓reduceIte, Nat.reduceEqDiff, Nat.reduceAdd, Nat.reduceLeDiff, ne_eq, not_false_eq_true, ls, Nat.reduceAdd, Nat.le_refl, pj]
  refine CallT.mk (t := ⟨⟩) (sub3_n gd p.1 q.2 hp.1 hq.2) ?_
  simp (maxSteps := 10000000) only [↓sx, sx, ↓ty, ↓reduceIte, Nat.reduceEqDiff, Nat.reduceAdd, Nat.reduceLeDiff, ne_eq, not_false_eq_true, ls, Nat.reduceAdd, Nat.le_refl]
  refine CallT.mk (t := ⟨⟩) (sub3_n gd p.2 q.1 hp.2 hq.1) ?_
  simp (maxSteps := 10000000) only [↓sx, sx, ↓ty, ↓reduceIte, Nat.reduceEqDiff, Nat.reduceAdd, Nat.reduceLeDiff, pc, ls, bs, and_self, Nat.reduceAdd, Nat.le_refl, pj]
set_option maxRecDepth 100000 in
set_option maxHeartbeats 4000000 in
theorem join4_n (p q : Rat × Rat) (hp : SzI 40000 p) (hq : SzI 40000 q) : Meets Tryz.prog Gd 124 [iqP p, iqP q] (iqP (joinQ p q)) := by
  refine meets_of_vc (Y := {}) (N := 16) (rs := [.cell 4 62]) mix tk gd Tryz.func124 rfl (by kernel_rfl) rfl rfl (by simp) (by kernel_rfl) ?_
  simp (maxSteps := 10000000) only [↓sx, sx, ↓ty, ↓reduceIte, Nat.reduceEqDiff, Nat.reduceAdd, Nat.reduceLeDiff, ne_eq, not_false_eq_true, ls, Nat.reduceAdd, pj]
  refine CallT.mk (t := ⟨⟩) (least_q p.1 q.1 hp.1 hq.1) ?_
  simp (maxSteps := 10000000) only [↓sx, sx, ↓ty, ↓reduceIte, Nat.reduceEqDiff, Nat.reduceAdd, ne_eq, not_false_eq_true, ls, Nat.reduceAdd, Nat.le_refl]
  refine CallT.mk (t := ⟨⟩) (most_q p.2 q.2 hp.2 hq.2) ?_
  simp (maxSteps := 10000000) only [↓sx, sx, ↓ty, ↓reduceIte, Nat.reduceEqDiff, Nat.reduceAdd, Nat.reduceLeDiff, pc, ls, bs, and_self, Nat.reduceAdd, Nat.le_refl, pj, joinQ]
set_option maxRecDepth 100000 in
set_option maxHeartbeats 4000000 in
theorem scale4_n (p : Rat × Rat) (x : Rat) (hp : SzI 20000 p) (hx : Sz 20000 x) : Meets Tryz.prog Gd 84 [iqP p, qP x] (iqP (scaleQ p x)) := by
  refine meets_of_vc (Y := {}) (N := 16) (rs := [.cell 4 62]) mix tk gd Tryz.func84 rfl (by kernel_rfl) rfl rfl (by simp) (by kernel_rfl) ?_
  simp (maxSteps := 10000000) only [↓sx, sx, ↓ty, ↓reduceIte, Nat.reduceEqDiff, Nat.reduceAdd, Nat.reduceLeDiff, ne_eq, not_false_eq_true, pc, ls, Nat.reduceAdd, Nat.le_refl, pj]
  refine CallT.mk (t := ⟨⟩) (mul3_n gd p.1 x (hp.1.mono (by omega)) (hx.mono (by omega))) ?_
  simp (maxSteps := 10000000) only [↓sx, sx, ↓reduceIte, pc]
  refine CallT.mk (t := ⟨⟩) (just4_n (p.1 * x)) ?_
  simp (maxSteps := 10000000) only [↓sx, sx, ↓ty, ↓reduceIte, Nat.reduceEqDiff, Nat.reduceAdd, ne_eq, not_false_eq_true, ls, Nat.reduceAdd, Nat.le_refl]
  refine CallT.mk (t := ⟨⟩) (mul3_n gd p.2 x (hp.2.mono (by omega)) (hx.mono (by omega))) ?_
  simp (maxSteps := 10000000) only [↓sx, sx, ↓reduceIte, pc]
  refine CallT.mk (t := ⟨⟩) (just4_n (p.2 * x)) ?_
  simp (maxSteps := 10000000) only [↓sx, sx, ↓reduceIte, Nat.reduceEqDiff, pj]
  refine CallT.mk (t := ⟨⟩) (join4_n (p.1 * x, p.1 * x) (p.2 * x, p.2 * x) ⟨hp.1.mul hx, hp.1.mul hx⟩ ⟨hp.2.mul hx, hp.2.mul hx⟩) ?_
  simp (maxSteps := 10000000) only [↓sx, sx, ↓ty, ↓reduceIte, Nat.reduceEqDiff, Nat.reduceAdd, ls, bs, and_self, Nat.reduceAdd, Nat.le_refl, pj, scaleQ]
set_option maxRecDepth 100000 in
set_option maxHeartbeats 4000000 in
theorem times4_n (p q : Rat × Rat) (hp : SzI 20000 p) (hq : SzI 20000 q) : Meets Tryz.prog Gd 127 [iqP p, iqP q] (iqP (timesQ p q)) := by
  refine meets_of_vc (Y := {}) (N := 14) (rs := [.cell 4 62]) mix tk gd Tryz.func127 rfl (by kernel_rfl) rfl rfl (by simp) (by kernel_rfl) ?_
  simp (maxSteps := 10000000) only [↓sx, sx, ↓ty, ↓reduceIte, Nat.reduceEqDiff, Nat.reduceAdd, Nat.reduceLeDiff, ne_eq, not_false_eq_true, ls, Nat.reduceAdd, Nat.le_refl, pj]
  refine CallT.mk (t := ⟨⟩) (scale4_n p q.1 hp hq.1) ?_
  simp (maxSteps := 10000000) only [↓sx, sx, ↓ty, ↓reduceIte, Nat.reduceEqDiff, Nat.reduceAdd, ne_eq, not_false_eq_true, ls, Nat.reduceAdd, Nat.le_refl]
  refine CallT.mk (t := ⟨⟩) (scale4_n p q.2 hp hq.2) ?_
  simp (maxSteps := 10000000) only [↓sx, sx, ↓reduceIte, Nat.reduceEqDiff, pj]
  refine CallT.mk (t := ⟨⟩) (join4_n (scaleQ p q.1) (scaleQ p q.2) (scaleQ_sz hp hq.1) (scaleQ_sz hp hq.2)) ?_
  simp (maxSteps := 10000000) only [↓sx, sx, ↓ty, ↓reduceIte, Nat.reduceEqDiff, Nat.reduceAdd, ls, bs, and_self, Nat.reduceAdd, Nat.le_refl, pj, timesQ]
set_option maxRecDepth 100000 in
set_option maxHeartbeats 4000000 in
theorem over4_n (p q : Rat × Rat) (hp : SzI 20000 p) (hq : SzI 20000 q) (h1 : q.1 ≠ 0) (h2 : q.2 ≠ 0) : Meets Tryz.prog Gd 90 [iqP p, iqP q] (iqP (overQ p q)) := by
  refine meets_of_vc (Y := {}) (N := 14) (rs := [.cell 4 62]) mix tk gd Tryz.func90 rfl (by kernel_rfl) rfl rfl (by simp) (by kernel_rfl) ?_
  simp (maxSteps := 10000000) only [↓sx, sx, ↓ty, ↓reduceIte, Nat.reduceEqDiff, Nat.reduceAdd, ne_eq, not_false_eq_true, ls, Nat.reduceAdd, Nat.le_refl, pj]
  refine CallT.mk (t := ⟨⟩) (inv3_n gd q.2 h2) ?_
  simp (maxSteps := 10000000) only [↓sx, sx, ↓ty, ↓reduceIte, Nat.reduceEqDiff, Nat.reduceAdd, Nat.reduceLeDiff, ne_eq, not_false_eq_true, ls, Nat.reduceAdd]
  refine CallT.mk (t := ⟨⟩) (inv3_n gd q.1 h1) ?_
  simp (maxSteps := 10000000) only [↓sx, sx, ↓ty, ↓reduceIte, Nat.reduceEqDiff, Nat.reduceAdd, Nat.reduceLeDiff, pc, ls, bs, and_self, Nat.reduceAdd, Nat.le_refl]
  refine CallT.mk (t := ⟨⟩) (times4_n p (q.2⁻¹, q.1⁻¹) hp ⟨hq.2.inv (by omega), hq.1.inv (by omega)⟩) ?_
  simp (maxSteps := 10000000) only [↓sx, sx, ↓ty, ↓reduceIte, Nat.reduceEqDiff, Nat.reduceAdd, ls, bs, and_self, Nat.reduceAdd, Nat.le_refl, pj, overQ]
end Go.Proofs.YtolehnkoocnenaaGreatDoor.S
namespace Gb
open Go Go.RowKit Go.Sx
theorem ends4 (p q r s : Rat) : endsQ (p, p) [q, r, s] = (leastQ (leastQ p r) (leastQ q s), mostQ (mostQ p r) (mostQ q s)) := by
  simp only [endsQ, List.foldl, leastQ, mostQ]
  grind
theorem leastQ_l {x y : Rat} (h : x ≤ y) : leastQ x y = x := by unfold leastQ; rw [if_pos h]
theorem leastQ_r {x y : Rat} (h : y ≤ x) : leastQ x y = y := by unfold leastQ; split <;> grind
theorem mostQ_l {x y : Rat} (h : y ≤ x) : mostQ x y = x := by unfold mostQ; rw [if_pos h]
theorem mostQ_r {x y : Rat} (h : x ≤ y) : mostQ x y = y := by unfold mostQ; split <;> grind
theorem corQ_sub {a1 a2 b1 b2 : Rat} (ha : a1 ≤ a2) (hb : b1 ≤ b2) : corQ (· - ·) a1 a2 b1 b2 = (a1 - b2, a2 - b1) := by
  unfold corQ
  rw [ends4]
  dsimp only
  rw [leastQ_l (show a1 - b1 ≤ a2 - b1 by grind), leastQ_l (show a1 - b2 ≤ a2 - b2 by grind), leastQ_r (show a1 - b2 ≤ a1 - b1 by grind),
    mostQ_r (show a1 - b1 ≤ a2 - b1 by grind), mostQ_r (show a1 - b2 ≤ a2 - b2 by grind), mostQ_l (show a2 - b2 ≤ a2 - b1 by grind)]
theorem corQ_div {a1 a2 b1 b2 : Rat} : corQ (· / ·) a1 a2 b1 b2 = overQ (a1, a2) (b1, b2) := by
  unfold corQ overQ
  rw [ends4]
  simp only [timesQ, scaleQ, joinQ, Rat.div_def]
  generalize a1 * b1⁻¹ = p
  generalize a1 * b2⁻¹ = q
  generalize a2 * b1⁻¹ = r
  generalize a2 * b2⁻¹ = s
  simp only [leastQ, mostQ]
  grind
theorem sq_nonneg (a : Rat) : 0 ≤ a * a := by
  by_cases h : 0 ≤ a
  · exact Rat.mul_nonneg h h
  · have : 0 ≤ -a * -a := Rat.mul_nonneg (by grind) (by grind)
    grind
theorem sign_le0 (x : Rat) : x.num.sign ≤ 0 ↔ x ≤ 0 := by
  have := le_sign x 0
  rwa [show x - 0 = x by grind] at this
theorem sign_ge0 (x : Rat) : 0 ≤ x.num.sign ↔ 0 ≤ x := by
  have := ge_sign x 0
  rwa [show x - 0 = x by grind] at this
end Gb
namespace Go.Proofs.YtolehnkoocnenaaGreatDoor.S
open Go Go.Sx Go.RowKit Gb Go.Shelf
theorem rd_rT {a : List UInt8} (h : isRat a = true) : rd a = ratOf a := by unfold rd; rw [if_pos h]
end Go.Proofs.YtolehnkoocnenaaGreatDoor.S
namespace Gb
open Go Go.RowKit Go.Sx
end Gb
namespace Go.Proofs.YtolehnkoocnenaaGreatDoor.S
open Go Go.Sx Go.RowKit Gb Go.Shelf
end Go.Proofs.YtolehnkoocnenaaGreatDoor.S
namespace Gb
open Go Go.RowKit Go.Sx
def idx {α : Type} (f : α → Bool) (l : List α) : Int := match l.findIdx? f with | some i => (i : Nat) | none => -1
theorem idx_any {α : Type} (f : α → Bool) (l : List α) : decide (idx f l ≥ 0) = l.any f := by
  unfold idx
  cases h : l.findIdx? f with
  | none =>
    rw [List.findIdx?_eq_none_iff] at h
    have : l.any f = false := by rw [List.any_eq_false]; intro x hx; simp [h x hx]
    rw [this]; rfl
  | some i =>
    have h2 : l.any f = true := by
      obtain ⟨h1, h2, _⟩ := List.findIdx?_eq_some_iff_getElem.1 h
      rw [List.any_eq_true]
      exact ⟨_, List.getElem_mem h1, h2⟩
    rw [h2]
    simp
theorem idx_at {α : Type} (f : α → Bool) (l : List α) (i : Nat) (x : α) (hx : l[i]? = some x) (h : ∀ y ∈ l.take i, f y = false) (hf : f x = true) : idx f l = i := by
  unfold idx
  obtain ⟨hi, rfl⟩ := List.getElem?_eq_some_iff.1 hx
  have : l.findIdx? f = some i := by
    rw [List.findIdx?_eq_some_iff_getElem]
    refine ⟨hi, hf, fun j hj => ?_⟩
    have := h l[j] (List.mem_take_iff_getElem.2 ⟨j, by omega, rfl⟩)
    simp [this]
  rw [this]
theorem idx_none {α : Type} (f : α → Bool) (l : List α) (h : ∀ y ∈ l, f y = false) : idx f l = -1 := by
  unfold idx
  have : l.findIdx? f = none := by rw [List.findIdx?_eq_none_iff]; exact h
  rw [this]
def texts (l : List (List UInt8)) : List PV := l.map strP
theorem take_snocA {α : Type} {l : List α} {i : Nat} {x : α} (hx : l[i]? = some x) : l.take (i + 1) = l.take i ++ [x] := by
  rw [List.take_add_one, hx]; rfl
end Gb
namespace Go.Proofs.YtolehnkoocnenaaGreatDoor.S
open Go Go.Sx Go.RowKit Gb Go.Shelf
set_option maxRecDepth 100000 in
set_option maxHeartbeats 4000000 in
theorem idxT_n (g : FuncId) (f : List UInt8 → Bool) (l : List (List UInt8)) (hl : l.length ≤ 9223372036854775807) (hf : ∀ a ∈ l, Meets Tryz.prog Gd g [strP a] (.val (.bool (f a)))) :
    Meets Tryz.prog Gd 112 [.sl l.length (texts l), .clo g [] []] (iP (idx f l)) := by
  refine meets_of_vc (Y := {}) (N := 19) (rs := [.tmp 4]) mix tk gd Tryz.func112 rfl (by kernel_rfl) rfl rfl (by simp) (by kernel_rfl) ?_
  simp (maxSteps := 10000000) only [↓sx, sx, ↓ty, ↓reduceIte, Nat.reduceEqDiff, Nat.reduceBeqDiff, Nat.reduceAdd, Nat.reduceLeDiff, Nat.reduceLT, Nat.reduceMul, Nat.reduceSub, Int.reduceEq, Int.reduceBNe, Int.reduceBEq, ne_eq, not_false_eq_true, pc, ls, bs, and_true, true_and, and_self, Nat.reduceAdd, Nat.le_refl, leafP]
  refine loopK_of (fun i : Nat => [(0, .p (.sl l.length (texts l))), (1, .p (.clo g [] [])), (7, .p (.val (.int .i64 (l.length : Nat)))), (8, .p (.val (.int .i64 (i : Nat))))]) (fun _ => []) (fun _ => []) (fun i => i ≤ l.length ∧ ∀ y ∈ l.take i, f y = false) (fun i => l.length - i) 0 ⟨Nat.zero_le _, by simp⟩ ?_ ?_
  · simp (maxSteps := 10000000) only [isE_nil, is_cons, bo_p, bo_box, bo_orow, bo_rowp, any_cons', all_cons', all_nil', Bool.true_or, Bool.or_true, ↓sx, sx, ↓reduceIte, Nat.reduceEqDiff, Nat.reduceBeqDiff]
    try trivial
  · rintro i ⟨hi, hv⟩
    by_cases hil : i < l.length
    · have e1 : decide ((i : Int) < (l.length : Int)) = true := by simp; omega
      obtain ⟨a, ha⟩ : ∃ a, l[i]? = some a := ⟨l[i], List.getElem?_eq_getElem hil⟩
      have hm : a ∈ l := List.mem_of_getElem? ha
      have hd : (texts l)[i]? = some (strP a) := by unfold texts; rw [List.getElem?_map, ha]; rfl
      have hn : (texts l).length = l.length := by unfold texts; simp
      simp (maxSteps := 10000000) only [↓sx, sx, ↓ty, ↓reduceIte, Nat.reduceEqDiff, Nat.reduceBeqDiff, Nat.reduceAdd, Nat.reduceLeDiff, Nat.reduceLT, Nat.reduceMul, Nat.reduceSub, Int.reduceEq, Int.reduceBNe, Int.reduceBEq, ne_eq, not_false_eq_true, pc, ls, bs, and_true, true_and, and_self, Nat.reduceAdd, Nat.le_refl, leafP, e1, hd, hn]
      refine ⟨⟨by omega, hil⟩, ?_⟩
      refine CallT.mk (hf a hm) ?_
      cases hfa : f a with
      | true =>
        simp (maxSteps := 10000000) only [↓sx, sx, ↓ty, ↓reduceIte, Nat.reduceEqDiff, Nat.reduceBeqDiff, Nat.reduceAdd, Nat.reduceLeDiff, Nat.reduceLT, Nat.reduceMul, Nat.reduceSub, Int.reduceEq, Int.reduceBNe, Int.reduceBEq, ne_eq, not_false_eq_true, pc, ls, bs, and_true, true_and, and_self, Nat.reduceAdd, Nat.le_refl, leafP]
        rw [idx_at f l i a ha hv hfa]
      | false =>
        simp (maxSteps := 10000000) only [↓sx, sx, ↓ty, ↓reduceIte, Nat.reduceEqDiff, Nat.reduceBeqDiff, Nat.reduceAdd, Nat.reduceLeDiff, Nat.reduceLT, Nat.reduceMul, Nat.reduceSub, Int.reduceEq, Int.reduceBNe, Int.reduceBEq, ne_eq, not_false_eq_true, pc, ls, bs, and_true, true_and, and_self, Nat.reduceAdd, Nat.le_refl, leafP]
        refine NextK.mk (i + 1) (by omega) ⟨by omega, ?_⟩ ?_
        · intro y hy
          rw [take_snocA ha] at hy
          rcases List.mem_append.1 hy with hy | hy
          · exact hv y hy
          · rw [List.mem_singleton] at hy; rw [hy]; exact hfa
        · simp (maxSteps := 10000000) only [isE_nil, is_cons, bo_p, bo_box, bo_orow, bo_rowp, any_cons', all_cons', all_nil', Bool.true_or, Bool.or_true, ↓sx, sx, ↓reduceIte, Nat.reduceEqDiff, Nat.reduceBeqDiff]
          rw [i64_id (by omega) (by omega)]
          try rfl
    · obtain rfl : i = l.length := by omega
      rw [List.take_length] at hv
      have e1 : decide ((l.length : Int) < (l.length : Int)) = false := by simp
      simp (maxSteps := 10000000) only [↓sx, sx, ↓ty, ↓reduceIte, Nat.reduceEqDiff, Nat.reduceBeqDiff, Nat.reduceAdd, Nat.reduceLeDiff, Nat.reduceLT, Nat.reduceMul, Nat.reduceSub, Int.reduceEq, Int.reduceBNe, Int.reduceBEq, ne_eq, not_false_eq_true, pc, ls, bs, and_true, true_and, and_self, Nat.reduceAdd, Nat.le_refl, leafP, e1]
      rw [idx_none f l hv]
set_option maxRecDepth 100000 in
theorem anyT_n (g : FuncId) (f : List UInt8 → Bool) (l : List (List UInt8)) (hl : l.length ≤ 9223372036854775807) (hf : ∀ a ∈ l, Meets Tryz.prog Gd g [strP a] (.val (.bool (f a)))) :
    Meets Tryz.prog Gd 65 [.sl l.length (texts l), .clo g [] []] (.val (.bool (l.any f))) := by
  refine meets_of_vc (Y := {}) (N := 9) (rs := [.tmp 4]) mix tk gd Tryz.func65 rfl (by kernel_rfl) rfl rfl (by simp) (by kernel_rfl) ?_
  simp (maxSteps := 10000000) only [↓sx, sx, ↓ty, ↓reduceIte, Nat.reduceEqDiff, Nat.reduceBeqDiff, Nat.reduceAdd, Nat.reduceLeDiff, Nat.reduceLT, Nat.reduceMul, Nat.reduceSub, Int.reduceEq, Int.reduceBNe, Int.reduceBEq, ne_eq, not_false_eq_true, pc, ls, bs, and_true, true_and, and_self, Nat.reduceAdd, Nat.le_refl, leafP]
  refine CallT.mk (idxT_n g f l hl hf) ?_
  simp (maxSteps := 10000000) only [↓sx, sx, ↓ty, ↓reduceIte, Nat.reduceEqDiff, Nat.reduceBeqDiff, Nat.reduceAdd, Nat.reduceLeDiff, Nat.reduceLT, Nat.reduceMul, Nat.reduceSub, Int.reduceEq, Int.reduceBNe, Int.reduceBEq, ne_eq, not_false_eq_true, pc, ls, bs, and_true, true_and, and_self, Nat.reduceAdd, Nat.le_refl, leafP, idx_any]
end Go.Proofs.YtolehnkoocnenaaGreatDoor.S
namespace Gb
open Go Go.RowKit Go.Sx
def wi (p q : Rat × Rat) : Prop := p.1 ≤ q.1 ∧ q.1 ≤ q.2 ∧ q.2 ≤ p.2
end Gb
namespace Gb
open Go Go.RowKit Go.Sx
theorem siP_rt (n : Int) : siP n = rtP (n : Rat) := by unfold siP rtP; rw [rT_int]
theorem rtP_1 : rtP 1 = .val (.string ⟨#[49]⟩) := by
  have := siP_rt 1
  rw [show ((1 : Int) : Rat) = 1 from rfl] at this
  rw [← this]
  unfold siP strP
  rw [show iD 1 = [49] from by unfold iD; rw [if_neg (by decide)]; exact dec_1]
theorem Sz1 (k : Nat) (hk : 1 ≤ k) : Sz k 1 := Sz.int (z := 1) (Nat.le_trans (Lw_le (by decide)) hk) hk
end Gb
namespace Gb
open Go Go.RowKit Go.Sx
def inU (x : Rat) : Bool := !decide (1 < x) && !decide (x < 0 - 1)
def achk (L : List (List UInt8)) : Int := if L.all isRat then (if L.all (fun l => inU (ratOf l)) then 0 else 2) else 1
noncomputable def cosQ (x : Rat) : Rat := (1 - x * x) / (1 + x * x)
noncomputable def sinQ (x : Rat) : Rat := 2 * x / (1 + x * x)
noncomputable def acosP (l : List UInt8) : PV := if achk [l] = 0 then .tup [rtP (cosQ (ratOf l)), iP 0] else .tup [strP [], iP (achk [l])]
noncomputable def asinP (l : List UInt8) : PV := if achk [l] = 0 then .tup [rtP (sinQ (ratOf l)), iP 0] else .tup [strP [], iP (achk [l])]
noncomputable def asumP (a b : List UInt8) : PV := if achk [a, b] = 0 then (if 1 - ratOf a * ratOf b = 0 then .tup [strP [], iP 15] else if inU ((ratOf a + ratOf b) / (1 - ratOf a * ratOf b)) then .tup [rtP ((ratOf a + ratOf b) / (1 - ratOf a * ratOf b)), iP 0] else .tup [strP [], iP 15]) else .tup [strP [], iP (achk [a, b])]
theorem rtP_of {l : List UInt8} (h : isRat l = true) : rtP (ratOf l) = strP l := by unfold rtP; rw [rT_ratOf h]
theorem rT_zero6 (y : Rat) : (rT y == [48]) = decide (y = 0) := by
  by_cases h : y = 0
  · subst h; rw [rT_0]; rfl
  · rw [decide_eq_false h, beq_eq_false_iff_ne]
    intro e
    have := congrArg ratOf e
    rw [ratOf_rT, ratOf_0] at this
    exact h this
theorem one_sq (x : Rat) : 1 + x * x ≠ 0 := by have := sq_nonneg x; grind
theorem achk_ok {L : List (List UInt8)} (h : achk L = 0) : ∀ l ∈ L, isRat l = true ∧ inU (ratOf l) = true := by
  unfold achk at h
  split at h
  · rename_i h1
    split at h
    · rename_i h2
      exact fun l hl => ⟨List.all_eq_true.1 h1 l hl, List.all_eq_true.1 h2 l hl⟩
    · omega
  · omega
end Gb
namespace Go.Proofs.YtolehnkoocnenaaGreatDoor.S
open Go Go.Sx Go.RowKit Gb Go.Shelf
set_option maxRecDepth 100000 in
theorem aadd_q (x y : Rat) (hx : Sz 4000 x) (hy : Sz 4000 y) : Meets Tryz.prog Gd 52 [rtP x, rtP y] (rtP (x + y)) := by
  refine meets_of_vc (Y := {}) (N := 14) (rs := [.tmp 4]) mix tk gd Tryz.func52 rfl (by kernel_rfl) rfl rfl (by simp) (by kernel_rfl) ?_
  simp (maxSteps := 10000000) only [↓sx, sx, ↓ty, ↓reduceIte, Nat.reduceEqDiff, Nat.reduceBeqDiff, Nat.reduceAdd, Nat.reduceLeDiff, Nat.reduceLT, Nat.reduceMul, Nat.reduceSub, Int.reduceEq, Int.reduceBNe, Int.reduceBEq, ne_eq, not_false_eq_true, pc, ls, bs, and_true, true_and, and_self, Nat.reduceAdd, Nat.le_refl, leafP]
  refine CallT.mk (t := ⟨⟩) (rop_q radd_n x y hx hy) ?_
  simp (maxSteps := 10000000) only [↓sx, sx, ↓ty, ↓reduceIte, Nat.reduceEqDiff, Nat.reduceBeqDiff, Nat.reduceAdd, Nat.reduceLeDiff, Nat.reduceLT, Nat.reduceMul, Nat.reduceSub, Int.reduceEq, Int.reduceBNe, Int.reduceBEq, ne_eq, not_false_eq_true, pc, ls, bs, and_true, true_and, and_self, Nat.reduceAdd, Nat.le_refl, leafP]
set_option maxRecDepth 100000 in
theorem asub_q (x y : Rat) (hx : Sz 4000 x) (hy : Sz 4000 y) : Meets Tryz.prog Gd 69 [rtP x, rtP y] (rtP (x - y)) := by
  refine meets_of_vc (Y := {}) (N := 14) (rs := [.tmp 4]) mix tk gd Tryz.func69 rfl (by kernel_rfl) rfl rfl (by simp) (by kernel_rfl) ?_
  simp (maxSteps := 10000000) only [↓sx, sx, ↓ty, ↓reduceIte, Nat.reduceEqDiff, Nat.reduceBeqDiff, Nat.reduceAdd, Nat.reduceLeDiff, Nat.reduceLT, Nat.reduceMul, Nat.reduceSub, Int.reduceEq, Int.reduceBNe, Int.reduceBEq, ne_eq, not_false_eq_true, pc, ls, bs, and_true, true_and, and_self, Nat.reduceAdd, Nat.le_refl, leafP]
  refine CallT.mk (t := ⟨⟩) (rop_q rsub_n x y hx hy) ?_
  simp (maxSteps := 10000000) only [↓sx, sx, ↓ty, ↓reduceIte, Nat.reduceEqDiff, Nat.reduceBeqDiff, Nat.reduceAdd, Nat.reduceLeDiff, Nat.reduceLT, Nat.reduceMul, Nat.reduceSub, Int.reduceEq, Int.reduceBNe, Int.reduceBEq, ne_eq, not_false_eq_true, pc, ls, bs, and_true, true_and, and_self, Nat.reduceAdd, Nat.le_refl, leafP]
set_option maxRecDepth 100000 in
theorem amul_q (x y : Rat) (hx : Sz 4000 x) (hy : Sz 4000 y) : Meets Tryz.prog Gd 51 [rtP x, rtP y] (rtP (x * y)) := by
  refine meets_of_vc (Y := {}) (N := 14) (rs := [.tmp 4]) mix tk gd Tryz.func51 rfl (by kernel_rfl) rfl rfl (by simp) (by kernel_rfl) ?_
  simp (maxSteps := 10000000) only [↓sx, sx, ↓ty, ↓reduceIte, Nat.reduceEqDiff, Nat.reduceBeqDiff, Nat.reduceAdd, Nat.reduceLeDiff, Nat.reduceLT, Nat.reduceMul, Nat.reduceSub, Int.reduceEq, Int.reduceBNe, Int.reduceBEq, ne_eq, not_false_eq_true, pc, ls, bs, and_true, true_and, and_self, Nat.reduceAdd, Nat.le_refl, leafP]
  refine CallT.mk (t := ⟨⟩) (rop_q rmul_n x y hx hy) ?_
  simp (maxSteps := 10000000) only [↓sx, sx, ↓ty, ↓reduceIte, Nat.reduceEqDiff, Nat.reduceBeqDiff, Nat.reduceAdd, Nat.reduceLeDiff, Nat.reduceLT, Nat.reduceMul, Nat.reduceSub, Int.reduceEq, Int.reduceBNe, Int.reduceBEq, ne_eq, not_false_eq_true, pc, ls, bs, and_true, true_and, and_self, Nat.reduceAdd, Nat.le_refl, leafP]
set_option maxRecDepth 100000 in
theorem adiv_q (x y : Rat) (hx : Sz 4000 x) (hy : Sz 4000 y) (h0 : y ≠ 0) : Meets Tryz.prog Gd 68 [rtP x, rtP y] (rtP (x / y)) := by
  refine meets_of_vc (Y := {}) (N := 14) (rs := [.tmp 4]) mix tk gd Tryz.func68 rfl (by kernel_rfl) rfl rfl (by simp) (by kernel_rfl) ?_
  have D := rdiv_n (rT x) (rT y) (by have := rT_len hx; omega) (by have := rT_len hy; omega)
  unfold rdivP at D
  rw [isRat_rT, isRat_rT, if_pos (show (true && true) = true from rfl), ratOf_rT, ratOf_rT, if_neg h0] at D
  simp (maxSteps := 10000000) only [↓sx, sx, ↓ty, ↓reduceIte, Nat.reduceEqDiff, Nat.reduceBeqDiff, Nat.reduceAdd, Nat.reduceLeDiff, Nat.reduceLT, Nat.reduceMul, Nat.reduceSub, Int.reduceEq, Int.reduceBNe, Int.reduceBEq, ne_eq, not_false_eq_true, pc, ls, bs, and_true, true_and, and_self, Nat.reduceAdd, Nat.le_refl, leafP]
  refine CallT.mk (t := ⟨⟩) D ?_
  simp (maxSteps := 10000000) only [↓sx, sx, ↓ty, ↓reduceIte, Nat.reduceEqDiff, Nat.reduceBeqDiff, Nat.reduceAdd, Nat.reduceLeDiff, Nat.reduceLT, Nat.reduceMul, Nat.reduceSub, Int.reduceEq, Int.reduceBNe, Int.reduceBEq, ne_eq, not_false_eq_true, pc, ls, bs, and_true, true_and, and_self, Nat.reduceAdd, Nat.le_refl, leafP]
set_option maxRecDepth 100000 in
theorem aless_q (x y : Rat) (hx : Sz 4000 x) (hy : Sz 4000 y) : Meets Tryz.prog Gd 53 [rtP x, rtP y] (.val (.bool (decide (x < y)))) := by
  refine meets_of_vc (Y := {}) (N := 15) (rs := [.tmp 4]) mix tk gd Tryz.func53 rfl (by kernel_rfl) rfl rfl (by simp) (by kernel_rfl) ?_
  have h : decide ((x - y).num.sign < 0) = decide (x < y) := by congr 1; exact propext (lt_sign x y)
  simp (maxSteps := 10000000) only [↓sx, sx, ↓ty, ↓reduceIte, Nat.reduceEqDiff, Nat.reduceBeqDiff, Nat.reduceAdd, Nat.reduceLeDiff, Nat.reduceLT, Nat.reduceMul, Nat.reduceSub, Int.reduceEq, Int.reduceBNe, Int.reduceBEq, ne_eq, not_false_eq_true, pc, ls, bs, and_true, true_and, and_self, Nat.reduceAdd, Nat.le_refl, leafP]
  refine CallT.mk (t := ⟨⟩) (rcmp_q x y hx hy) ?_
  simp (maxSteps := 10000000) only [↓sx, sx, ↓ty, ↓reduceIte, Nat.reduceEqDiff, Nat.reduceBeqDiff, Nat.reduceAdd, Nat.reduceLeDiff, Nat.reduceLT, Nat.reduceMul, Nat.reduceSub, Int.reduceEq, Int.reduceBNe, Int.reduceBEq, ne_eq, not_false_eq_true, pc, ls, bs, and_true, true_and, and_self, Nat.reduceAdd, Nat.le_refl, leafP, h]
set_option maxRecDepth 100000 in
theorem awhole_n (n : Int) (h0 : -1000000000 < n) (h1 : n < 1000000000) : Meets Tryz.prog Gd 149 [iP n] (rtP (n : Rat)) := by
  refine meets_of_vc (Y := {}) (N := 5) (rs := [.tmp 2]) mix tk gd Tryz.func149 rfl (by kernel_rfl) rfl rfl (by simp) (by kernel_rfl) ?_
  have I := itoa_n n (by omega) (by omega)
  rw [siP_rt] at I
  simp (maxSteps := 10000000) only [↓sx, sx, ↓ty, ↓reduceIte, Nat.reduceEqDiff, Nat.reduceBeqDiff, Nat.reduceAdd, Nat.reduceLeDiff, Nat.reduceLT, Nat.reduceMul, Nat.reduceSub, Int.reduceEq, Int.reduceBNe, Int.reduceBEq, ne_eq, not_false_eq_true, pc, ls, bs, and_true, true_and, and_self, Nat.reduceAdd, Nat.le_refl, leafP]
  refine CallT.mk (t := ⟨⟩) I ?_
  simp (maxSteps := 10000000) only [↓sx, sx, ↓ty, ↓reduceIte, Nat.reduceEqDiff, Nat.reduceBeqDiff, Nat.reduceAdd, Nat.reduceLeDiff, Nat.reduceLT, Nat.reduceMul, Nat.reduceSub, Int.reduceEq, Int.reduceBNe, Int.reduceBEq, ne_eq, not_false_eq_true, pc, ls, bs, and_true, true_and, and_self, Nat.reduceAdd, Nat.le_refl, leafP]
set_option maxRecDepth 100000 in
theorem awithin_q (x e : Rat) (hx : Sz 400 x) (he : Sz 400 e) : Meets Tryz.prog Gd 50 [rtP x, rtP e] (.val (.bool (!decide (e < x) && !decide (x < 0 - e)))) := by
  refine meets_of_vc (Y := {}) (N := 16) (rs := [.tmp 4]) mix tk gd Tryz.func50 rfl (by kernel_rfl) rfl rfl (by simp) (by kernel_rfl) ?_
  have S := asub_q 0 e (Sz0 _ (by omega)) (he.mono (by omega))
  rw [show rtP 0 = strP [48] from rtP_0] at S
  have zs := (Sz0 400 (by omega)).sub he
  simp (maxSteps := 10000000) only [↓sx, sx, ↓ty, ↓reduceIte, Nat.reduceEqDiff, Nat.reduceBeqDiff, Nat.reduceAdd, Nat.reduceLeDiff, Nat.reduceLT, Nat.reduceMul, Nat.reduceSub, Int.reduceEq, Int.reduceBNe, Int.reduceBEq, ne_eq, not_false_eq_true, pc, ls, bs, and_true, true_and, and_self, Nat.reduceAdd, Nat.le_refl, leafP]
  refine CallT.mk (t := ⟨⟩) (aless_q e x (he.mono (by omega)) (hx.mono (by omega))) ?_
  cases h1 : decide (e < x) with
  | true => simp (maxSteps := 10000000) only [↓sx, sx, ↓ty, ↓reduceIte, Nat.reduceEqDiff, Nat.reduceBeqDiff, Nat.reduceAdd, Nat.reduceLeDiff, Nat.reduceLT, Nat.reduceMul, Nat.reduceSub, Int.reduceEq, Int.reduceBNe, Int.reduceBEq, ne_eq, not_false_eq_true, pc, ls, bs, and_true, true_and, and_self, Nat.reduceAdd, Nat.le_refl, leafP]
  | false =>
    simp (maxSteps := 10000000) only [↓sx, sx, ↓ty, ↓reduceIte, Nat.reduceEqDiff, Nat.reduceBeqDiff, Nat.reduceAdd, Nat.reduceLeDiff, Nat.reduceLT, Nat.reduceMul, Nat.reduceSub, Int.reduceEq, Int.reduceBNe, Int.reduceBEq, ne_eq, not_false_eq_true, pc, ls, bs, and_true, true_and, and_self, Nat.reduceAdd, Nat.le_refl, leafP]
    refine CallT.mk (t := ⟨⟩) S ?_
    simp (maxSteps := 10000000) only [↓sx, sx, ↓ty, ↓reduceIte, Nat.reduceEqDiff, Nat.reduceBeqDiff, Nat.reduceAdd, Nat.reduceLeDiff, Nat.reduceLT, Nat.reduceMul, Nat.reduceSub, Int.reduceEq, Int.reduceBNe, Int.reduceBEq, ne_eq, not_false_eq_true, pc, ls, bs, and_true, true_and, and_self, Nat.reduceAdd, Nat.le_refl, leafP]
    refine CallT.mk (t := ⟨⟩) (aless_q x (0 - e) (hx.mono (by omega)) (zs.mono (by omega))) ?_
    simp (maxSteps := 10000000) only [↓sx, sx, ↓ty, ↓reduceIte, Nat.reduceEqDiff, Nat.reduceBeqDiff, Nat.reduceAdd, Nat.reduceLeDiff, Nat.reduceLT, Nat.reduceMul, Nat.reduceSub, Int.reduceEq, Int.reduceBNe, Int.reduceBEq, ne_eq, not_false_eq_true, pc, ls, bs, and_true, true_and, and_self, Nat.reduceAdd, Nat.le_refl, leafP]
set_option maxRecDepth 100000 in
theorem ain_q (x : Rat) (hx : Sz 400 x) : Meets Tryz.prog Gd 50 [rtP x, strP [49]] (.val (.bool (inU x))) := by
  have := awithin_q x 1 hx (Sz1 _ (by omega))
  rw [show rtP 1 = strP [49] from rtP_1] at this
  exact this
set_option maxRecDepth 100000 in
theorem avalid_n (l : List UInt8) (hl : l.length < 3000) : Meets Tryz.prog Gd 20 [strP l] (.val (.bool (isRat l && inU (ratOf l)))) := by
  refine meets_of_vc (Y := {}) (N := 9) (rs := [.tmp 2]) mix tk gd Tryz.func20 rfl (by kernel_rfl) rfl rfl (by simp) (by kernel_rfl) ?_
  simp (maxSteps := 10000000) only [↓sx, sx, ↓ty, ↓reduceIte, Nat.reduceEqDiff, Nat.reduceBeqDiff, Nat.reduceAdd, Nat.reduceLeDiff, Nat.reduceLT, Nat.reduceMul, Nat.reduceSub, Int.reduceEq, Int.reduceBNe, Int.reduceBEq, ne_eq, not_false_eq_true, pc, ls, bs, and_true, true_and, and_self, Nat.reduceAdd, Nat.le_refl, leafP]
  refine CallT.mk (t := ⟨⟩) (rvalid_n l (by omega)) ?_
  cases h : isRat l with
  | false => simp (maxSteps := 10000000) only [↓sx, sx, ↓ty, ↓reduceIte, Nat.reduceEqDiff, Nat.reduceBeqDiff, Nat.reduceAdd, Nat.reduceLeDiff, Nat.reduceLT, Nat.reduceMul, Nat.reduceSub, Int.reduceEq, Int.reduceBNe, Int.reduceBEq, ne_eq, not_false_eq_true, pc, ls, bs, and_true, true_and, and_self, Nat.reduceAdd, Nat.le_refl, leafP]
  | true =>
    have W := ain_q (ratOf l) ((Sz.of h (k := 399) (by omega)).mono (by omega))
    rw [rtP_of h] at W
    simp (maxSteps := 10000000) only [↓sx, sx, ↓ty, ↓reduceIte, Nat.reduceEqDiff, Nat.reduceBeqDiff, Nat.reduceAdd, Nat.reduceLeDiff, Nat.reduceLT, Nat.reduceMul, Nat.reduceSub, Int.reduceEq, Int.reduceBNe, Int.reduceBEq, ne_eq, not_false_eq_true, pc, ls, bs, and_true, true_and, and_self, Nat.reduceAdd, Nat.le_refl, leafP]
    refine CallT.mk (t := ⟨⟩) W ?_
    simp (maxSteps := 10000000) only [↓sx, sx, ↓ty, ↓reduceIte, Nat.reduceEqDiff, Nat.reduceBeqDiff, Nat.reduceAdd, Nat.reduceLeDiff, Nat.reduceLT, Nat.reduceMul, Nat.reduceSub, Int.reduceEq, Int.reduceBNe, Int.reduceBEq, ne_eq, not_false_eq_true, pc, ls, bs, and_true, true_and, and_self, Nat.reduceAdd, Nat.le_refl, leafP]
set_option maxRecDepth 100000 in
set_option maxHeartbeats 8000000 in
theorem acheck_n (L : List (List UInt8)) (hL : L.length < 100) (hs : ∀ x ∈ L, x.length < 3000) : Meets Tryz.prog Gd 67 [.sl L.length (texts L)] (iP (achk L)) := by
  refine meets_of_vc (Y := {}) (N := 27) (rs := [.tmp 2]) mix tk gd Tryz.func67 rfl (by kernel_rfl) rfl rfl (by simp) (by kernel_rfl) ?_
  have hn : (texts L).length = L.length := by unfold texts; simp
  simp (maxSteps := 10000000) only [↓sx, sx, ↓ty, ↓reduceIte, Nat.reduceEqDiff, Nat.reduceBeqDiff, Nat.reduceAdd, Nat.reduceLeDiff, Nat.reduceLT, Nat.reduceMul, Nat.reduceSub, Int.reduceEq, Int.reduceBNe, Int.reduceBEq, ne_eq, not_false_eq_true, pc, ls, bs, and_true, true_and, and_self, Nat.reduceAdd, Nat.le_refl, leafP]
  refine loopK_of (fun i : Nat => [(0, .p (.sl L.length (texts L))), (2, .p (iP 0)), (7, .p (.sl L.length (texts L))), (8, .p (.val (.int .i64 (L.length : Nat)))), (9, .p (.val (.int .i64 (i : Nat))))]) (fun _ => []) (fun _ => []) (fun i => i ≤ L.length ∧ ∀ y ∈ L.take i, isRat y = true) (fun i => L.length - i) 0 ⟨Nat.zero_le _, by simp⟩ ?_ ?_
  · simp (maxSteps := 10000000) only [isE_nil, is_cons, bo_p, bo_box, bo_orow, bo_rowp, any_cons', all_cons', all_nil', Bool.true_or, Bool.or_true, ↓sx, sx, ↓reduceIte, Nat.reduceEqDiff, Nat.reduceBeqDiff]
    try trivial
  · rintro i ⟨hi, hv⟩
    by_cases hil : i < L.length
    · have e1 : decide ((i : Int) < (L.length : Int)) = true := decide_eq_true (by omega)
      obtain ⟨a, ha⟩ : ∃ a, L[i]? = some a := ⟨L[i], List.getElem?_eq_getElem hil⟩
      have hm : a ∈ L := List.mem_of_getElem? ha
      have hd : (texts L)[i]? = some (strP a) := by unfold texts; rw [List.getElem?_map, ha]; rfl
      simp (maxSteps := 10000000) only [↓sx, sx, ↓ty, ↓reduceIte, Nat.reduceEqDiff, Nat.reduceBeqDiff, Nat.reduceAdd, Nat.reduceLeDiff, Nat.reduceLT, Nat.reduceMul, Nat.reduceSub, Int.reduceEq, Int.reduceBNe, Int.reduceBEq, ne_eq, not_false_eq_true, pc, ls, bs, and_true, true_and, and_self, Nat.reduceAdd, Nat.le_refl, leafP, e1, hd, hn]
      refine ⟨⟨by omega, hil⟩, ?_⟩
      refine CallT.mk (t := ⟨⟩) (rvalid_n a (by have := hs a hm; omega)) ?_
      cases hr : isRat a with
      | false =>
        have hk : achk L = 1 := by
          unfold achk
          rw [if_neg]
          intro h
          have := List.all_eq_true.1 h a hm
          rw [hr] at this; cases this
        rw [hk]
        simp (maxSteps := 10000000) only [↓sx, sx, ↓ty, ↓reduceIte, Nat.reduceEqDiff, Nat.reduceBeqDiff, Nat.reduceAdd, Nat.reduceLeDiff, Nat.reduceLT, Nat.reduceMul, Nat.reduceSub, Int.reduceEq, Int.reduceBNe, Int.reduceBEq, ne_eq, not_false_eq_true, pc, ls, bs, and_true, true_and, and_self, Nat.reduceAdd, Nat.le_refl, leafP]
      | true =>
        simp (maxSteps := 10000000) only [↓sx, sx, ↓ty, ↓reduceIte, Nat.reduceEqDiff, Nat.reduceBeqDiff, Nat.reduceAdd, Nat.reduceLeDiff, Nat.reduceLT, Nat.reduceMul, Nat.reduceSub, Int.reduceEq, Int.reduceBNe, Int.reduceBEq, ne_eq, not_false_eq_true, pc, ls, bs, and_true, true_and, and_self, Nat.reduceAdd, Nat.le_refl, leafP]
        refine NextK.mk (i + 1) (by omega) ⟨by omega, ?_⟩ ?_
        · intro y hy
          rw [take_snocA ha] at hy
          rcases List.mem_append.1 hy with hy | hy
          · exact hv y hy
          · rw [List.mem_singleton] at hy; rw [hy]; exact hr
        · simp (maxSteps := 10000000) only [isE_nil, is_cons, bo_p, bo_box, bo_orow, bo_rowp, any_cons', all_cons', all_nil', Bool.true_or, Bool.or_true, ↓sx, sx, ↓reduceIte, Nat.reduceEqDiff, Nat.reduceBeqDiff]
          rw [i64_id (by omega) (by omega)]
          exact ⟨rfl, rfl⟩
    · obtain rfl : i = L.length := by omega
      rw [List.take_length] at hv
      have e1 : decide ((L.length : Int) < (L.length : Int)) = false := decide_eq_false (by omega)
      simp (maxSteps := 10000000) only [↓sx, sx, ↓ty, ↓reduceIte, Nat.reduceEqDiff, Nat.reduceBeqDiff, Nat.reduceAdd, Nat.reduceLeDiff, Nat.reduceLT, Nat.reduceMul, Nat.reduceSub, Int.reduceEq, Int.reduceBNe, Int.reduceBEq, ne_eq, not_false_eq_true, pc, ls, bs, and_true, true_and, and_self, Nat.reduceAdd, Nat.le_refl, leafP, e1]
      refine loopK_of (fun i : Nat => [(0, .p (.sl L.length (texts L))), (2, .p (iP 0)), (17, .p (.sl L.length (texts L))), (18, .p (.val (.int .i64 (L.length : Nat)))), (19, .p (.val (.int .i64 (i : Nat))))]) (fun _ => []) (fun _ => []) (fun i => i ≤ L.length ∧ ∀ y ∈ L.take i, inU (ratOf y) = true) (fun i => L.length - i) 0 ⟨Nat.zero_le _, by simp⟩ ?_ ?_
      · simp (maxSteps := 10000000) only [isE_nil, is_cons, bo_p, bo_box, bo_orow, bo_rowp, any_cons', all_cons', all_nil', Bool.true_or, Bool.or_true, ↓sx, sx, ↓reduceIte, Nat.reduceEqDiff, Nat.reduceBeqDiff]
        try trivial
      · rintro i ⟨hi, hv2⟩
        by_cases hil : i < L.length
        · have e1 : decide ((i : Int) < (L.length : Int)) = true := decide_eq_true (by omega)
          obtain ⟨a, ha⟩ : ∃ a, L[i]? = some a := ⟨L[i], List.getElem?_eq_getElem hil⟩
          have hm : a ∈ L := List.mem_of_getElem? ha
          have hd : (texts L)[i]? = some (strP a) := by unfold texts; rw [List.getElem?_map, ha]; rfl
          have hr := hv a hm
          have W := ain_q (ratOf a) ((Sz.of hr (k := 399) (by have := hs a hm; omega)).mono (by omega))
          rw [rtP_of hr] at W
          simp (maxSteps := 10000000) only [↓sx, sx, ↓ty, ↓reduceIte, Nat.reduceEqDiff, Nat.reduceBeqDiff, Nat.reduceAdd, Nat.reduceLeDiff, Nat.reduceLT, Nat.reduceMul, Nat.reduceSub, Int.reduceEq, Int.reduceBNe, Int.reduceBEq, ne_eq, not_false_eq_true, pc, ls, bs, and_true, true_and, and_self, Nat.reduceAdd, Nat.le_refl, leafP, e1, hd, hn]
          refine ⟨⟨by omega, hil⟩, ?_⟩
          refine CallT.mk (t := ⟨⟩) W ?_
          cases hu : inU (ratOf a) with
          | false =>
            have hk : achk L = 2 := by
              unfold achk
              rw [if_pos (List.all_eq_true.2 hv), if_neg]
              intro h
              have := List.all_eq_true.1 h a hm
              rw [hu] at this; cases this
            rw [hk]
            simp (maxSteps := 10000000) only [↓sx, sx, ↓ty, ↓reduceIte, Nat.reduceEqDiff, Nat.reduceBeqDiff, Nat.reduceAdd, Nat.reduceLeDiff, Nat.reduceLT, Nat.reduceMul, Nat.reduceSub, Int.reduceEq, Int.reduceBNe, Int.reduceBEq, ne_eq, not_false_eq_true, pc, ls, bs, and_true, true_and, and_self, Nat.reduceAdd, Nat.le_refl, leafP]
          | true =>
            simp (maxSteps := 10000000) only [↓sx, sx, ↓ty, ↓reduceIte, Nat.reduceEqDiff, Nat.reduceBeqDiff, Nat.reduceAdd, Nat.reduceLeDiff, Nat.reduceLT, Nat.reduceMul, Nat.reduceSub, Int.reduceEq, Int.reduceBNe, Int.reduceBEq, ne_eq, not_false_eq_true, pc, ls, bs, and_true, true_and, and_self, Nat.reduceAdd, Nat.le_refl, leafP]
            refine NextK.mk (i + 1) (by omega) ⟨by omega, ?_⟩ ?_
            · intro y hy
              rw [take_snocA ha] at hy
              rcases List.mem_append.1 hy with hy | hy
              · exact hv2 y hy
              · rw [List.mem_singleton] at hy; rw [hy]; exact hu
            · simp (maxSteps := 10000000) only [isE_nil, is_cons, bo_p, bo_box, bo_orow, bo_rowp, any_cons', all_cons', all_nil', Bool.true_or, Bool.or_true, ↓sx, sx, ↓reduceIte, Nat.reduceEqDiff, Nat.reduceBeqDiff]
              rw [i64_id (by omega) (by omega)]
              exact ⟨rfl, rfl⟩
        · obtain rfl : i = L.length := by omega
          rw [List.take_length] at hv2
          have e1 : decide ((L.length : Int) < (L.length : Int)) = false := decide_eq_false (by omega)
          have hk : achk L = 0 := by
            unfold achk
            rw [if_pos (List.all_eq_true.2 hv), if_pos (List.all_eq_true.2 hv2)]
          rw [hk]
          simp (maxSteps := 10000000) only [↓sx, sx, ↓ty, ↓reduceIte, Nat.reduceEqDiff, Nat.reduceBeqDiff, Nat.reduceAdd, Nat.reduceLeDiff, Nat.reduceLT, Nat.reduceMul, Nat.reduceSub, Int.reduceEq, Int.reduceBNe, Int.reduceBEq, ne_eq, not_false_eq_true, pc, ls, bs, and_true, true_and, and_self, Nat.reduceAdd, Nat.le_refl, leafP, e1]
set_option maxRecDepth 100000 in
theorem acos_n (l : List UInt8) (hl : l.length < 800) : Meets Tryz.prog Gd 25 [strP l] (acosP l) := by
  refine meets_of_vc (Y := {}) (N := 20) (rs := [.tmp 2, .tmp 3]) mix tk gd Tryz.func25 rfl (by kernel_rfl) rfl rfl (by simp) (by kernel_rfl) ?_
  have C := acheck_n [l] (by simp) (by simp; omega)
  unfold acosP
  simp (maxSteps := 10000000) only [↓sx, sx, ↓ty, ↓reduceIte, Nat.reduceEqDiff, Nat.reduceBeqDiff, Nat.reduceAdd, Nat.reduceLeDiff, Nat.reduceLT, Nat.reduceMul, Nat.reduceSub, Int.reduceEq, Int.reduceBNe, Int.reduceBEq, ne_eq, not_false_eq_true, pc, ls, bs, and_true, true_and, and_self, Nat.reduceAdd, Nat.le_refl, leafP]
  refine CallT.mk (t := ⟨⟩) C ?_
  by_cases h : achk [l] = 0
  · obtain ⟨hr, hu⟩ := achk_ok h l (by simp)
    have zx : Sz 100 (ratOf l) := (Sz.of hr (k := 99) (by omega)).mono (by omega)
    rw [if_pos h, h]
    rw [← rtP_of hr]
    unfold cosQ
    generalize ratOf l = x at *
    have zm := zx.mul zx
    have z1 := Sz1 200 (by omega)
    have M := amul_q x x (zx.mono (by omega)) (zx.mono (by omega))
    have S := asub_q 1 (x * x) (Sz1 _ (by omega)) (zm.mono (by omega))
    have A := aadd_q 1 (x * x) (Sz1 _ (by omega)) (zm.mono (by omega))
    have D := adiv_q (1 - x * x) (1 + x * x) ((z1.sub zm).mono (by omega)) ((z1.add zm).mono (by omega)) (one_sq x)
    rw [show rtP 1 = strP [49] from rtP_1] at S A
    simp (maxSteps := 10000000) only [↓sx, sx, ↓ty, ↓reduceIte, Nat.reduceEqDiff, Nat.reduceBeqDiff, Nat.reduceAdd, Nat.reduceLeDiff, Nat.reduceLT, Nat.reduceMul, Nat.reduceSub, Int.reduceEq, Int.reduceBNe, Int.reduceBEq, ne_eq, not_false_eq_true, pc, ls, bs, and_true, true_and, and_self, Nat.reduceAdd, Nat.le_refl, leafP]
    refine CallT.mk (t := ⟨⟩) M ?_
    simp (maxSteps := 10000000) only [↓sx, sx, ↓ty, ↓reduceIte, Nat.reduceEqDiff, Nat.reduceBeqDiff, Nat.reduceAdd, Nat.reduceLeDiff, Nat.reduceLT, Nat.reduceMul, Nat.reduceSub, Int.reduceEq, Int.reduceBNe, Int.reduceBEq, ne_eq, not_false_eq_true, pc, ls, bs, and_true, true_and, and_self, Nat.reduceAdd, Nat.le_refl, leafP]
    refine CallT.mk (t := ⟨⟩) S ?_
    simp (maxSteps := 10000000) only [↓sx, sx, ↓ty, ↓reduceIte, Nat.reduceEqDiff, Nat.reduceBeqDiff, Nat.reduceAdd, Nat.reduceLeDiff, Nat.reduceLT, Nat.reduceMul, Nat.reduceSub, Int.reduceEq, Int.reduceBNe, Int.reduceBEq, ne_eq, not_false_eq_true, pc, ls, bs, and_true, true_and, and_self, Nat.reduceAdd, Nat.le_refl, leafP]
    refine CallT.mk (t := ⟨⟩) A ?_
    simp (maxSteps := 10000000) only [↓sx, sx, ↓ty, ↓reduceIte, Nat.reduceEqDiff, Nat.reduceBeqDiff, Nat.reduceAdd, Nat.reduceLeDiff, Nat.reduceLT, Nat.reduceMul, Nat.reduceSub, Int.reduceEq, Int.reduceBNe, Int.reduceBEq, ne_eq, not_false_eq_true, pc, ls, bs, and_true, true_and, and_self, Nat.reduceAdd, Nat.le_refl, leafP]
    refine CallT.mk (t := ⟨⟩) D ?_
    simp (maxSteps := 10000000) only [↓sx, sx, ↓ty, ↓reduceIte, Nat.reduceEqDiff, Nat.reduceBeqDiff, Nat.reduceAdd, Nat.reduceLeDiff, Nat.reduceLT, Nat.reduceMul, Nat.reduceSub, Int.reduceEq, Int.reduceBNe, Int.reduceBEq, ne_eq, not_false_eq_true, pc, ls, bs, and_true, true_and, and_self, Nat.reduceAdd, Nat.le_refl, leafP]
  · have d0 : (achk [l] != 0) = true := by simp [h]
    rw [if_neg h]
    simp (maxSteps := 10000000) only [↓sx, sx, ↓ty, ↓reduceIte, Nat.reduceEqDiff, Nat.reduceBeqDiff, Nat.reduceAdd, Nat.reduceLeDiff, Nat.reduceLT, Nat.reduceMul, Nat.reduceSub, Int.reduceEq, Int.reduceBNe, Int.reduceBEq, ne_eq, not_false_eq_true, pc, ls, bs, and_true, true_and, and_self, Nat.reduceAdd, Nat.le_refl, leafP, d0]
set_option maxRecDepth 100000 in
theorem asin_n (l : List UInt8) (hl : l.length < 800) : Meets Tryz.prog Gd 27 [strP l] (asinP l) := by
  refine meets_of_vc (Y := {}) (N := 18) (rs := [.tmp 2, .tmp 3]) mix tk gd Tryz.func27 rfl (by kernel_rfl) rfl rfl (by simp) (by kernel_rfl) ?_
  have C := acheck_n [l] (by simp) (by simp; omega)
  unfold asinP
  simp (maxSteps := 10000000) only [↓sx, sx, ↓ty, ↓reduceIte, Nat.reduceEqDiff, Nat.reduceBeqDiff, Nat.reduceAdd, Nat.reduceLeDiff, Nat.reduceLT, Nat.reduceMul, Nat.reduceSub, Int.reduceEq, Int.reduceBNe, Int.reduceBEq, ne_eq, not_false_eq_true, pc, ls, bs, and_true, true_and, and_self, Nat.reduceAdd, Nat.le_refl, leafP]
  refine CallT.mk (t := ⟨⟩) C ?_
  by_cases h : achk [l] = 0
  · obtain ⟨hr, hu⟩ := achk_ok h l (by simp)
    have zx : Sz 100 (ratOf l) := (Sz.of hr (k := 99) (by omega)).mono (by omega)
    rw [if_pos h, h]
    rw [← rtP_of hr]
    unfold sinQ
    generalize ratOf l = x at *
    have zm := zx.mul zx
    have z1 := Sz1 200 (by omega)
    have z2 : Sz 100 (2 : Rat) := Sz.int (z := 2) (Nat.le_trans (Lw_le (k := 1) (by decide)) (by omega)) (by omega)
    have r2 : rtP 2 = strP [50] := by
      have := siP_rt 2
      rw [show ((2 : Int) : Rat) = 2 from rfl] at this
      rw [← this]
      unfold siP iD
      rw [if_neg (by decide), show (2 : Int).natAbs = 2 from rfl, Lib.decDigits]
      rfl
    have M2 := amul_q 2 x (z2.mono (by omega)) (zx.mono (by omega))
    rw [r2] at M2
    have M := amul_q x x (zx.mono (by omega)) (zx.mono (by omega))
    have A := aadd_q 1 (x * x) (Sz1 _ (by omega)) (zm.mono (by omega))
    have D := adiv_q (2 * x) (1 + x * x) ((z2.mul zx).mono (by omega)) ((z1.add zm).mono (by omega)) (one_sq x)
    rw [show rtP 1 = strP [49] from rtP_1] at A
    simp (maxSteps := 10000000) only [↓sx, sx, ↓ty, ↓reduceIte, Nat.reduceEqDiff, Nat.reduceBeqDiff, Nat.reduceAdd, Nat.reduceLeDiff, Nat.reduceLT, Nat.reduceMul, Nat.reduceSub, Int.reduceEq, Int.reduceBNe, Int.reduceBEq, ne_eq, not_false_eq_true, pc, ls, bs, and_true, true_and, and_self, Nat.reduceAdd, Nat.le_refl, leafP]
    refine CallT.mk (t := ⟨⟩) M2 ?_
    simp (maxSteps := 10000000) only [↓sx, sx, ↓ty, ↓reduceIte, Nat.reduceEqDiff, Nat.reduceBeqDiff, Nat.reduceAdd, Nat.reduceLeDiff, Nat.reduceLT, Nat.reduceMul, Nat.reduceSub, Int.reduceEq, Int.reduceBNe, Int.reduceBEq, ne_eq, not_false_eq_true, pc, ls, bs, and_true, true_and, and_self, Nat.reduceAdd, Nat.le_refl, leafP]
    refine CallT.mk (t := ⟨⟩) M ?_
    simp (maxSteps := 10000000) only [↓sx, sx, ↓ty, ↓reduceIte, Nat.reduceEqDiff, Nat.reduceBeqDiff, Nat.reduceAdd, Nat.reduceLeDiff, Nat.reduceLT, Nat.reduceMul, Nat.reduceSub, Int.reduceEq, Int.reduceBNe, Int.reduceBEq, ne_eq, not_false_eq_true, pc, ls, bs, and_true, true_and, and_self, Nat.reduceAdd, Nat.le_refl, leafP]
    refine CallT.mk (t := ⟨⟩) A ?_
    simp (maxSteps := 10000000) only [↓sx, sx, ↓ty, ↓reduceIte, Nat.reduceEqDiff, Nat.reduceBeqDiff, Nat.reduceAdd, Nat.reduceLeDiff, Nat.reduceLT, Nat.reduceMul, Nat.reduceSub, Int.reduceEq, Int.reduceBNe, Int.reduceBEq, ne_eq, not_false_eq_true, pc, ls, bs, and_true, true_and, and_self, Nat.reduceAdd, Nat.le_refl, leafP]
    refine CallT.mk (t := ⟨⟩) D ?_
    simp (maxSteps := 10000000) only [↓sx, sx, ↓ty, ↓reduceIte, Nat.reduceEqDiff, Nat.reduceBeqDiff, Nat.reduceAdd, Nat.reduceLeDiff, Nat.reduceLT, Nat.reduceMul, Nat.reduceSub, Int.reduceEq, Int.reduceBNe, Int.reduceBEq, ne_eq, not_false_eq_true, pc, ls, bs, and_true, true_and, and_self, Nat.reduceAdd, Nat.le_refl, leafP]
  · have d0 : (achk [l] != 0) = true := by simp [h]
    rw [if_neg h]
    simp (maxSteps := 10000000) only [↓sx, sx, ↓ty, ↓reduceIte, Nat.reduceEqDiff, Nat.reduceBeqDiff, Nat.reduceAdd, Nat.reduceLeDiff, Nat.reduceLT, Nat.reduceMul, Nat.reduceSub, Int.reduceEq, Int.reduceBNe, Int.reduceBEq, ne_eq, not_false_eq_true, pc, ls, bs, and_true, true_and, and_self, Nat.reduceAdd, Nat.le_refl, leafP, d0]
set_option maxRecDepth 100000 in
theorem asum_n (a b : List UInt8) (ha : a.length < 400) (hb : b.length < 400) : Meets Tryz.prog Gd 29 [strP a, strP b] (asumP a b) := by
  refine meets_of_vc (Y := {}) (N := 31) (rs := [.tmp 4, .tmp 5]) mix tk gd Tryz.func29 rfl (by kernel_rfl) rfl rfl (by simp) (by kernel_rfl) ?_
  have C := acheck_n [a, b] (by simp) (by simp; omega)
  unfold asumP
  simp (maxSteps := 10000000) only [↓sx, sx, ↓ty, ↓reduceIte, Nat.reduceEqDiff, Nat.reduceBeqDiff, Nat.reduceAdd, Nat.reduceLeDiff, Nat.reduceLT, Nat.reduceMul, Nat.reduceSub, Int.reduceEq, Int.reduceBNe, Int.reduceBEq, ne_eq, not_false_eq_true, pc, ls, bs, and_true, true_and, and_self, Nat.reduceAdd, Nat.le_refl, leafP]
  refine CallT.mk (t := ⟨⟩) C ?_
  by_cases h : achk [a, b] = 0
  · obtain ⟨hr, hu⟩ := achk_ok h a (by simp)
    obtain ⟨hr2, hu2⟩ := achk_ok h b (by simp)
    have zx : Sz 46 (ratOf a) := (Sz.of hr (k := 45) (by omega)).mono (by omega)
    have zy : Sz 46 (ratOf b) := (Sz.of hr2 (k := 45) (by omega)).mono (by omega)
    rw [if_pos h, h]
    rw [← rtP_of hr, ← rtP_of hr2]
    generalize ratOf a = x at *
    generalize ratOf b = y at *
    have zm := zx.mul zy
    have z1 := Sz1 92 (by omega)
    have zd := z1.sub zm
    have M := amul_q x y (zx.mono (by omega)) (zy.mono (by omega))
    have S := asub_q 1 (x * y) (Sz1 _ (by omega)) (zm.mono (by omega))
    rw [show rtP 1 = strP [49] from rtP_1] at S
    have A := aadd_q x y (zx.mono (by omega)) (zy.mono (by omega))
    have za := zx.add zy
    have k0 := rT_zero6 (1 - x * y)
    simp (maxSteps := 10000000) only [↓sx, sx, ↓ty, ↓reduceIte, Nat.reduceEqDiff, Nat.reduceBeqDiff, Nat.reduceAdd, Nat.reduceLeDiff, Nat.reduceLT, Nat.reduceMul, Nat.reduceSub, Int.reduceEq, Int.reduceBNe, Int.reduceBEq, ne_eq, not_false_eq_true, pc, ls, bs, and_true, true_and, and_self, Nat.reduceAdd, Nat.le_refl, leafP]
    refine CallT.mk (t := ⟨⟩) M ?_
    simp (maxSteps := 10000000) only [↓sx, sx, ↓ty, ↓reduceIte, Nat.reduceEqDiff, Nat.reduceBeqDiff, Nat.reduceAdd, Nat.reduceLeDiff, Nat.reduceLT, Nat.reduceMul, Nat.reduceSub, Int.reduceEq, Int.reduceBNe, Int.reduceBEq, ne_eq, not_false_eq_true, pc, ls, bs, and_true, true_and, and_self, Nat.reduceAdd, Nat.le_refl, leafP]
    refine CallT.mk (t := ⟨⟩) S ?_
    by_cases hd : 1 - x * y = 0
    · have k1 := k0.trans (decide_eq_true hd)
      rw [if_pos hd]
      simp (maxSteps := 10000000) only [↓sx, sx, ↓ty, ↓reduceIte, Nat.reduceEqDiff, Nat.reduceBeqDiff, Nat.reduceAdd, Nat.reduceLeDiff, Nat.reduceLT, Nat.reduceMul, Nat.reduceSub, Int.reduceEq, Int.reduceBNe, Int.reduceBEq, ne_eq, not_false_eq_true, pc, ls, bs, and_true, true_and, and_self, Nat.reduceAdd, Nat.le_refl, leafP, ba_beq, k1]
    · have k1 := k0.trans (decide_eq_false hd)
      rw [if_neg hd]
      have D := adiv_q (x + y) (1 - x * y) (za.mono (by omega)) (zd.mono (by omega)) hd
      have zq := ((za.mono (m := 185) (by omega)).div (zd.mono (m := 185) (by omega)) (by omega)).mono (m := 400) (by omega)
      have W := ain_q ((x + y) / (1 - x * y)) zq
      simp (maxSteps := 10000000) only [↓sx, sx, ↓ty, ↓reduceIte, Nat.reduceEqDiff, Nat.reduceBeqDiff, Nat.reduceAdd, Nat.reduceLeDiff, Nat.reduceLT, Nat.reduceMul, Nat.reduceSub, Int.reduceEq, Int.reduceBNe, Int.reduceBEq, ne_eq, not_false_eq_true, pc, ls, bs, and_true, true_and, and_self, Nat.reduceAdd, Nat.le_refl, leafP, ba_beq, k1]
      refine CallT.mk (t := ⟨⟩) A ?_
      simp (maxSteps := 10000000) only [↓sx, sx, ↓ty, ↓reduceIte, Nat.reduceEqDiff, Nat.reduceBeqDiff, Nat.reduceAdd, Nat.reduceLeDiff, Nat.reduceLT, Nat.reduceMul, Nat.reduceSub, Int.reduceEq, Int.reduceBNe, Int.reduceBEq, ne_eq, not_false_eq_true, pc, ls, bs, and_true, true_and, and_self, Nat.reduceAdd, Nat.le_refl, leafP]
      refine CallT.mk (t := ⟨⟩) D ?_
      simp (maxSteps := 10000000) only [↓sx, sx, ↓ty, ↓reduceIte, Nat.reduceEqDiff, Nat.reduceBeqDiff, Nat.reduceAdd, Nat.reduceLeDiff, Nat.reduceLT, Nat.reduceMul, Nat.reduceSub, Int.reduceEq, Int.reduceBNe, Int.reduceBEq, ne_eq, not_false_eq_true, pc, ls, bs, and_true, true_and, and_self, Nat.reduceAdd, Nat.le_refl, leafP]
      refine CallT.mk (t := ⟨⟩) W ?_
      cases hw : inU ((x + y) / (1 - x * y)) with
      | true => simp (maxSteps := 10000000) only [↓sx, sx, ↓ty, ↓reduceIte, Nat.reduceEqDiff, Nat.reduceBeqDiff, Nat.reduceAdd, Nat.reduceLeDiff, Nat.reduceLT, Nat.reduceMul, Nat.reduceSub, Int.reduceEq, Int.reduceBNe, Int.reduceBEq, ne_eq, not_false_eq_true, pc, ls, bs, and_true, true_and, and_self, Nat.reduceAdd, Nat.le_refl, leafP]
      | false => simp (maxSteps := 10000000) only [↓sx, sx, ↓ty, ↓reduceIte, Nat.reduceEqDiff, Nat.reduceBeqDiff, Nat.reduceAdd, Nat.reduceLeDiff, Nat.reduceLT, Nat.reduceMul, Nat.reduceSub, Int.reduceEq, Int.reduceBNe, Int.reduceBEq, ne_eq, not_false_eq_true, pc, ls, bs, and_true, true_and, and_self, Nat.reduceAdd, Nat.le_refl, leafP]
  · have d0 : (achk [a, b] != 0) = true := by simp [h]
    rw [if_neg h]
    simp (maxSteps := 10000000) only [↓sx, sx, ↓ty, ↓reduceIte, Nat.reduceEqDiff, Nat.reduceBeqDiff, Nat.reduceAdd, Nat.reduceLeDiff, Nat.reduceLT, Nat.reduceMul, Nat.reduceSub, Int.reduceEq, Int.reduceBNe, Int.reduceBEq, ne_eq, not_false_eq_true, pc, ls, bs, and_true, true_and, and_self, Nat.reduceAdd, Nat.le_refl, leafP, d0]
end Go.Proofs.YtolehnkoocnenaaGreatDoor.S
namespace Gb
open Go Go.RowKit Go.Sx
abbrev sQ (y : Rat) : Value := .string ⟨(rT y).toArray⟩
def xk (x : Rat) : Nat → Rat
  | 0 => x
  | k + 1 => xk x k * (0 - x * x)
def od (k : Nat) : Int := 2 * (k : Int) + 1
def tm (x : Rat) (k : Nat) : Rat := xk x k / ((od k : Int) : Rat)
def psum (x : Rat) : Nat → Rat
  | 0 => 0
  | k + 1 => psum x k + tm x k
theorem Sz.neg1 {k : Nat} {y : Rat} (hx : Sz k 0) (hy : Sz k y) : Sz k (0 - y) := by
  have := hy.neg
  rwa [show -y = 0 - y by grind] at this
theorem od_sz (k : Nat) (hk : k < 100) : Sz 1 ((od k : Int) : Rat) := Sz.int (Nat.le_trans (Lw_le (k := 1) (by unfold od; omega)) (by omega)) (by omega)
theorem od_ne (k : Nat) : ((od k : Int) : Rat) ≠ 0 := by
  intro h
  have : (od k : Rat) = ((0 : Int) : Rat) := h
  have := Rat.intCast_inj.1 this
  unfold od at this; omega
end Gb
namespace Go.Proofs.YtolehnkoocnenaaGreatDoor.S
open Go Go.Sx Go.RowKit Gb Go.Shelf
attribute [local go_sem] Oper.semAt_some
theorem sQ_0 : sQ 0 = .string ⟨#[48]⟩ := by show Value.string ⟨(rT 0).toArray⟩ = _; rw [rT_0]
theorem cell_hp {W : World} {b : Nat} {v : Value} {t : TypeId} {fz : Nat × Nat} (h : W.heap[b]? = some (.cells #[v] t fz)) : W.cell? ⟨b, 0, none⟩ = some v := by
  simp [World.cell?, h]
theorem cell_fz {W : World} {b : Nat} {v : Value} {t : TypeId} (h : W.heap[b]? = some (.cells #[v] t (0, 0))) : W.frozen? ⟨b, 0, none⟩ = false := by
  simp [World.frozen?, h]
theorem call1 {f : FuncId} {n : Int} {c : Rat} (h : Meets Tryz.prog Gd f [iP n] (rtP c)) (W : World) (hG : Gd W) : Calls Tryz.prog f #[.int .i64 n] W fun e W' => e = .returned (sQ c) ∧ Below W.heap.size W W' :=
  (h.calls (fun _ => False) [.int .i64 n] W (fun _ hb => hb.elim) (by simp [RepL, RepP, iP]) hG).mono fun e W' ⟨v, he, hv, hb⟩ => ⟨by rw [he]; simp only [rtP, strP, RepP] at hv; rw [hv], hb⟩
theorem call2 {f : FuncId} {a b c : Rat} (h : Meets Tryz.prog Gd f [rtP a, rtP b] (rtP c)) (W : World) (hG : Gd W) : Calls Tryz.prog f #[sQ a, sQ b] W fun e W' => e = .returned (sQ c) ∧ Below W.heap.size W W' :=
  (h.calls (fun _ => False) [sQ a, sQ b] W (fun _ hb => hb.elim) (by simp [RepL, RepP, rtP, strP, sQ]) hG).mono fun e W' ⟨v, he, hv, hb⟩ => ⟨by rw [he]; simp only [rtP, strP, RepP] at hv; rw [hv], hb⟩
set_option maxRecDepth 100000 in
set_option maxHeartbeats 4000000 in
theorem terms1_in (l X : Nat) (x : Rat) (M : Nat) (hM : M ≤ 90) (hz : ∀ k, k ≤ M → Sz 1900 (xk x k)) (A B : Nat → World → Prop) (Fin : World → Prop)
    (hA : ∀ k W, A k W → k < M ∧ W.heap[X]? = some (.cells #[sQ (xk x k)] 22 (0, 0)) ∧ Gd W) (hAg : ∀ k W W', A k W → Below W.heap.size W W' → A k W')
    (hB : ∀ k W, B k W → W.heap[X]? = some (.cells #[sQ (xk x k)] 22 (0, 0)) ∧ Gd W) (hBg : ∀ k W W', B k W → Below W.heap.size W W' → B k W')
    (hS : ∀ k W, B k W → A (k + 1) (W.setCell ⟨X, 0, none⟩ (sQ (xk x (k + 1)))))
    (hY : ∀ k W, A k W → YieldAt Fence.wide 2 Tryz.prog l #[sQ (tm x k)] W fun e W' => (e = .returned (.bool true) ∧ B k W') ∨ (e = .returned (.bool false) ∧ Fin W'))
    (W : World) (h0 : A 0 W) :
    CallsIn Fence.wide 3 Tryz.prog 148 #[.func (.yield l) #[] #[], .pointer (some ⟨X, 0, none⟩)] W fun e W' => (∃ v, e = .returned v) ∧ Fin W' := by
  refine callsIn_of_wp Tryz.func148 rfl trivial ?_ rfl
  simp only [Tryz.ntmps148, List.size_toArray, List.length_cons, List.length_nil, Nat.reduceAdd, Nat.reduceSub, Array.replicate_succ, Array.replicate_zero, List.push_toArray, List.append_toArray, List.nil_append, List.cons_append]
  obtain ⟨hM0, hX, hG⟩ := hA 0 W h0
  have hXc := cell_hp hX
  have zx : Sz 1900 x := hz 0 (by omega)
  have zxx := zx.mul zx
  rw [show xk x 0 = x from rfl] at hXc
  gi_wp2
  refine ⟨trivial, ?_⟩
  refine (callsIn_wide.2 (call2 (amul_q x x (zx.mono (by omega)) (zx.mono (by omega))) W hG)).mono ?_
  rintro e W1 ⟨rfl, hB1⟩
  have C2 := call2 (asub_q 0 (x * x) (Sz0 _ (by omega)) (zxx.mono (by omega))) W1 (gd _ _ hG hB1)
  rw [sQ_0] at C2
  gi_wp2
  refine ⟨trivial, ?_⟩
  refine (callsIn_wide.2 C2).mono ?_
  rintro e W2 ⟨rfl, hB2⟩
  have hA2 := hAg 0 W W2 h0 (hB1.trans (hB2.mono hB1.size))
  gi_wp2
  gi_loopw [4] (fun i wr => ∃ k : Nat, i = .int .i64 (od k) ∧ A k wr) (fun i _ => 2 * M + 2 - (RowKit.intOf i).toNat)
  case atStart => exact ⟨0, by simp [od], hA2⟩
  case round =>
    obtain ⟨k, rfl, hAk⟩ := hrel
    obtain ⟨hkM, hXk, hGk⟩ := hA k wr hAk
    have hXkc := cell_hp hXk
    gi_wp2
    refine wpIn_region_any (by kernel_rfl) ?_
    change wpAnyIn _ _ _ _ _ _ _ _ _ (World.drew _)
    refine wpAnyIn_take (i := 0) (v := .func (.yield l) #[] #[]) rfl rfl (by kernel_rfl) (by kernel_rfl) (by kernel_rfl) (fun _ _ _ h => h) ⟨Or.inl ⟨by rfl, ?_⟩, fun _ => rfl⟩ ?_
    · intro w; go_simp
    refine wpAnyIn_take (i := 2) (v := .int .i64 (od k)) rfl rfl (by kernel_rfl) (by kernel_rfl) (by kernel_rfl) (fun _ _ _ h => h) ⟨Or.inl ⟨by rfl, ?_⟩, fun _ => rfl⟩ ?_
    · intro w; go_simp
    refine wpAnyIn_ready (rs := [1, 3]) (by kernel_rfl) (by simp) ?_
    refine AllReadyIn.cons rfl (fun K hK => ?_) (AllReadyIn.cons rfl (fun K hK => ?_) AllReadyIn.nil)
    · go_simp
      refine hK _ _ ?_
      clear hK K
      refine wpAnyIn_ready (rs := [3]) (by kernel_rfl) (by simp) ?_
      refine AllReadyIn.cons rfl (fun K hK => ?_) AllReadyIn.nil
      go_simp
      refine ⟨trivial, ?_⟩
      refine (callsIn_wide.2 (call1 (awhole_n (od k) (by unfold od; omega) (by unfold od; omega)) wr.drew (gd _ _ hGk (Below.refl _ _).drew))).mono ?_
      rintro e W4 ⟨rfl, hB4⟩
      have hB4' : Below wr.heap.size wr W4 := ((Below.refl _ _).drew).trans hB4
      have hA4 := hAg k wr W4 hAk hB4'
      have hG4 := gd _ _ hGk hB4'
      refine hK _ _ ?_
      clear hK K
      refine wpAnyIn_ready (rs := [4]) (by kernel_rfl) (by simp) ?_
      refine AllReadyIn.cons rfl (fun K hK => ?_) AllReadyIn.nil
      go_simp
      refine ⟨trivial, ?_⟩
      refine (callsIn_wide.2 (call2 (adiv_q (xk x k) (od k : Rat) ((hz k (by omega)).mono (by omega)) ((od_sz k (by omega)).mono (by omega)) (od_ne k)) W4 hG4)).mono ?_
      rintro e W5 ⟨rfl, hB5⟩
      refine hK _ _ ?_
      clear hK K
      refine wpAnyIn_ready (rs := [5]) (by kernel_rfl) (by simp) ?_
      refine AllReadyIn.cons rfl (fun K hK => ?_) AllReadyIn.nil
      obtain ⟨fn, tmps, assign, body, hy, hR⟩ := hY k W5 (hAg k W4 W5 hA4 hB5)
      rw [show xk x k / (od k : Rat) = tm x k from rfl]
      go_simp
      refine hR.mono ?_
      rintro e W6 (⟨rfl, hB6⟩ | ⟨rfl, hF6⟩)
      · refine hK _ _ ?_
        clear hK K
        refine wpAnyIn_done (by kernel_rfl) ?_ _
        obtain ⟨hX6, hG6⟩ := hB k W6 hB6
        have hX6c := cell_hp hX6
        gi_wp2
        refine ⟨trivial, ?_⟩
        refine (callsIn_wide.2 (call2 (amul_q (xk x k) (0 - x * x) ((hz k (by omega)).mono (by omega)) ((Sz.neg1 (Sz0 _ (by omega)) zxx).mono (by omega))) W6 hG6)).mono ?_
        rintro e W7 ⟨rfl, hB7⟩
        have hB7' := hBg k W6 W7 hB6 hB7
        have hX7c := cell_hp (hB k W7 hB7').1
        have hX7f := cell_fz (hB k W7 hB7').1
        have hw : wrap64 (od k + 2) = od (k + 1) := by unfold wrap64 od; omega
        gi_wp2
        go_roundw
        case rel => exact ⟨k + 1, by rw [hw], hS k W7 hB7'⟩
        case measure => rw [hw]; simp only [RowKit.intOf, od]; omega
      · refine hK _ _ ?_
        clear hK K
        refine wpAnyIn_done (by kernel_rfl) ?_ _
        gi_wp2
        go_end0
        exact ⟨⟨_, rfl⟩, hF6⟩
    · go_simp
      refine ⟨trivial, ?_⟩
      refine (callsIn_wide.2 (call1 (awhole_n (od k) (by unfold od; omega) (by unfold od; omega)) wr.drew (gd _ _ hGk (Below.refl _ _).drew))).mono ?_
      rintro e W4 ⟨rfl, hB4⟩
      have hB4' : Below wr.heap.size wr W4 := ((Below.refl _ _).drew).trans hB4
      have hA4 := hAg k wr W4 hAk hB4'
      have hG4 := gd _ _ hGk hB4'
      refine hK _ _ ?_
      clear hK K
      have hX4c := cell_hp (hA k W4 hA4).2.1
      refine wpAnyIn_ready (rs := [1]) (by kernel_rfl) (by simp) ?_
      refine AllReadyIn.cons rfl (fun K hK => ?_) AllReadyIn.nil
      go_simp
      refine hK _ _ ?_
      clear hK K
      refine wpAnyIn_ready (rs := [4]) (by kernel_rfl) (by simp) ?_
      refine AllReadyIn.cons rfl (fun K hK => ?_) AllReadyIn.nil
      go_simp
      refine ⟨trivial, ?_⟩
      refine (callsIn_wide.2 (call2 (adiv_q (xk x k) (od k : Rat) ((hz k (by omega)).mono (by omega)) ((od_sz k (by omega)).mono (by omega)) (od_ne k)) W4 hG4)).mono ?_
      rintro e W5 ⟨rfl, hB5⟩
      refine hK _ _ ?_
      clear hK K
      refine wpAnyIn_ready (rs := [5]) (by kernel_rfl) (by simp) ?_
      refine AllReadyIn.cons rfl (fun K hK => ?_) AllReadyIn.nil
      obtain ⟨fn, tmps, assign, body, hy, hR⟩ := hY k W5 (hAg k W4 W5 hA4 hB5)
      rw [show xk x k / (od k : Rat) = tm x k from rfl]
      go_simp
      refine hR.mono ?_
      rintro e W6 (⟨rfl, hB6⟩ | ⟨rfl, hF6⟩)
      · refine hK _ _ ?_
        clear hK K
        refine wpAnyIn_done (by kernel_rfl) ?_ _
        obtain ⟨hX6, hG6⟩ := hB k W6 hB6
        have hX6c := cell_hp hX6
        gi_wp2
        refine ⟨trivial, ?_⟩
        refine (callsIn_wide.2 (call2 (amul_q (xk x k) (0 - x * x) ((hz k (by omega)).mono (by omega)) ((Sz.neg1 (Sz0 _ (by omega)) zxx).mono (by omega))) W6 hG6)).mono ?_
        rintro e W7 ⟨rfl, hB7⟩
        have hB7' := hBg k W6 W7 hB6 hB7
        have hX7c := cell_hp (hB k W7 hB7').1
        have hX7f := cell_fz (hB k W7 hB7').1
        have hw : wrap64 (od k + 2) = od (k + 1) := by unfold wrap64 od; omega
        gi_wp2
        go_roundw
        case rel => exact ⟨k + 1, by rw [hw], hS k W7 hB7'⟩
        case measure => rw [hw]; simp only [RowKit.intOf, od]; omega
      · refine hK _ _ ?_
        clear hK K
        refine wpAnyIn_done (by kernel_rfl) ?_ _
        gi_wp2
        go_end0
        exact ⟨⟨_, rfl⟩, hF6⟩
end Go.Proofs.YtolehnkoocnenaaGreatDoor.S
namespace Gb
open Go Go.RowKit
def recOf (fn : FuncId) (tmps : Array Value) (ps : Array Tmp) (assign body : Code) (D : Nat) (st : LoopState) (pe : Option Code) : Obj :=
  .loop { state := st, pending := pe, fn, tmps, params := ps, assign, body, defers := D }
theorem range_start {P : Program} {g : Operand} {ps : Array Tmp} {assign body : Code} {Q : Exit → Act → World → Prop} {a : Act} {w : World} {gf : Nat} {lb : Array Value} (m : Nat)
    (hg : a.eval g = .func (.func gf) #[] lb) (eg : ∀ args w, (callFunc gf args).run P w = .ok (.enter gf args) w)
    (h : ∀ fn : FuncId, CallsIn Fence.wide m P gf (#[.func (.yield (w.heap.size + 1)) #[] #[]] ++ lb) ((w.alloc (.deferred (some []))).alloc (recOf fn a.tmps ps assign body w.heap.size .ready none))
      (rangePost Fence.wide (m + 1) P (w.heap.size + 1) Q { a with defers := [{ target := .collected w.heap.size, args := #[] }] ++ a.defers })) :
    (Code.rangeFunc g ps assign body).wpIn Fence.wide (m + 1) P Q a w := by
  refine wpIn_rangeFunc ?_
  intro fn _
  obtain ⟨W1, hW1⟩ : ∃ W1, (w.alloc (.deferred (some []))).alloc (recOf fn a.tmps ps assign body w.heap.size .ready none) = W1 := ⟨_, rfl⟩
  refine ⟨w.heap.size + 1, [{ target := .collected w.heap.size, args := #[] }], W1, { target := .fn (.func gf) lb, args := #[.func (.yield (w.heap.size + 1)) #[] #[]] }, W1, gf,
    #[.func (.yield (w.heap.size + 1)) #[] #[]] ++ lb, W1, ?_, ?_, fun _ _ => trivial, ?_, fun _ => by omega, ?_⟩
  · rw [← hW1]; exact run_enterLoop_outer _ _ _ _ _
  · simp only [resolve, hg]
    simp [go_sem]
  · simp [invoke, go_sem, eg]
  · rw [← hW1]; exact h fn
theorem range_round {P : Program} {m L D fn : Nat} {tmps : Array Value} {ps : Array Tmp} {assign body : Code} {args : Array Value} {W : World} {R : Ending → World → Prop} (a₁ : Act)
    (hl : W.heap[L]? = some (recOf fn tmps ps assign body D .ready none)) (hs : args.size = ps.size)
    (hassign : ∀ K : Act → World → Prop, K a₁ W → assign.wpIn (Fence.wide.inRound L) m P (Exit.then K (fun _ _ _ => False)) { tmps := (ps.zip args).foldl (fun t (p, v) => t.setIfInBounds p v) tmps, defers := [] } W)
    (hbody : body.wpIn (Fence.wide.inRound L) m P (roundPost P L R) a₁ (W.putObj L (recOf fn tmps ps assign body D .busy none))) :
    YieldAt Fence.wide m P L args W R :=
  ⟨fn, _, assign, body, run_yield hl hs, roundIn_of_wpIn trivial (hassign _ ⟨_, run_beginRound hl rfl, hbody⟩)⟩
section
variable {P : Program} {L D fn : Nat} {tmps : Array Value} {ps : Array Tmp} {assign body : Code} {W : World}
theorem round_go {R : Ending → World → Prop} {a : Act} (hl : W.heap[L]? = some (recOf fn tmps ps assign body D .busy none))
    (h : R (.returned (.bool true)) (W.putObj L (recOf fn tmps ps assign body D .ready none))) : roundPost P L R .normal a W :=
  ⟨_, _, run_endRound none hl, h⟩
theorem round_exit {R : Ending → World → Prop} {a : Act} {id : Nat} (hl : W.heap[L]? = some (recOf fn tmps ps assign body D .busy none))
    (h : R (.returned (.bool false)) (W.putObj L (recOf fn tmps ps assign body D .done (some (.exit id))))) : roundPost P L R (.exit id) a W :=
  ⟨_, _, run_endRound (some (.exit id)) hl, h⟩
theorem range_jump {n : Nat} {Q : Exit → Act → World → Prop} {a : Act} {v : Value} {c : Code} (hl : W.heap[L]? = some (recOf fn tmps ps assign body D .done (some c)))
    (h : c.wpIn Fence.wide n P Q a (W.putObj L (recOf fn tmps ps assign body D .exhausted (some c)))) : rangePost Fence.wide n P L Q a (.returned v) W :=
  ⟨_, _, run_endLoop hl (by simp), h⟩
end
end Gb
namespace Gb
open Go Go.RowKit Go.Sx
def betQ (a b : Rat) : Rat × Rat := if b < a then (b, a) else (a, b)
def serQ (x : Rat) (n : Nat) : Rat × Rat := betQ (psum x n) (psum x (n + 1))
end Gb
namespace Go.Proofs.YtolehnkoocnenaaGreatDoor.S
open Go Go.Sx Go.RowKit Gb Go.Shelf
attribute [local go_sem] Oper.semAt_some
set_option maxRecDepth 100000 in
theorem abet_q (a b : Rat) (ha : Sz 4000 a) (hb : Sz 4000 b) : Meets Tryz.prog Gd 123 [rtP a, rtP b] (ivQ (betQ a b)) := by
  refine meets_of_vc (Y := {}) (N := 13) (rs := [.cell 4 25]) mix tk gd Tryz.func123 rfl (by kernel_rfl) rfl rfl (by simp) (by kernel_rfl) ?_
  unfold betQ
  simp (maxSteps := 10000000) only [↓sx, sx, ↓ty, ↓reduceIte, Nat.reduceEqDiff, Nat.reduceBeqDiff, Nat.reduceAdd, Nat.reduceLeDiff, Nat.reduceLT, Nat.reduceMul, Nat.reduceSub, Int.reduceEq, Int.reduceBNe, Int.reduceBEq, ne_eq, not_false_eq_true, pc, ls, bs, and_true, true_and, and_self, Nat.reduceAdd, Nat.le_refl, leafP]
  refine CallT.mk (t := ⟨⟩) (aless_q b a hb ha) ?_
  by_cases h : b < a
  · rw [if_pos h, decide_eq_true h]
    simp (maxSteps := 10000000) only [↓sx, sx, ↓ty, ↓reduceIte, Nat.reduceEqDiff, Nat.reduceBeqDiff, Nat.reduceAdd, Nat.reduceLeDiff, Nat.reduceLT, Nat.reduceMul, Nat.reduceSub, Int.reduceEq, Int.reduceBNe, Int.reduceBEq, ne_eq, not_false_eq_true, pc, ls, bs, and_true, true_and, and_self, Nat.reduceAdd, Nat.le_refl, leafP]
    rfl
  · rw [if_neg h, decide_eq_false h]
    simp (maxSteps := 10000000) only [↓sx, sx, ↓ty, ↓reduceIte, Nat.reduceEqDiff, Nat.reduceBeqDiff, Nat.reduceAdd, Nat.reduceLeDiff, Nat.reduceLT, Nat.reduceMul, Nat.reduceSub, Int.reduceEq, Int.reduceBNe, Int.reduceBEq, ne_eq, not_false_eq_true, pc, ls, bs, and_true, true_and, and_self, Nat.reduceAdd, Nat.le_refl, leafP]
    rfl
theorem call2v {f : FuncId} {a b : Rat} {p : Rat × Rat} (h : Meets Tryz.prog Gd f [rtP a, rtP b] (ivQ p)) (W : World) (hG : Gd W) : Calls Tryz.prog f #[sQ a, sQ b] W fun e W' => e = .returned (.agg #[sQ p.1, sQ p.2]) ∧ Below W.heap.size W W' :=
  (h.calls (fun _ => False) [sQ a, sQ b] W (fun _ hb => hb.elim) (by simp [RepL, RepP, rtP, strP, sQ]) hG).mono fun e W' ⟨v, he, hv, hb⟩ => ⟨by
    rw [he]
    rw [ivQ_iv] at hv
    simp only [ivP, strP, RepP, RepL] at hv
    obtain ⟨vs, rfl, x, xs, rfl, rfl, y, ys, rfl, rfl, rfl⟩ := hv
    rfl, hb⟩
theorem cell2_hp {W : World} {b : Nat} {u v : Value} {t : TypeId} (h : W.heap[b]? = some (.cells #[u, v] t (0, 0))) : W.cell? ⟨b, 0, none⟩ = some u ∧ W.cell? ⟨b, 1, none⟩ = some v ∧ W.frozen? ⟨b, 0, none⟩ = false ∧ W.frozen? ⟨b, 1, none⟩ = false := by
  simp [World.cell?, World.frozen?, h]
theorem set2c {W : World} {b : Nat} {u v u' v' : Value} {t : TypeId} (h : W.heap[b]? = some (.cells #[u, v] t (0, 0))) : ((W.setCell ⟨b, 0, none⟩ u').setCell ⟨b, 1, none⟩ v').heap[b]? = some (.cells #[u', v'] t (0, 0)) := by
  have h1 : (W.setCell ⟨b, 0, none⟩ u').heap[b]? = some (.cells #[u', v] t (0, 0)) := by
    obtain ⟨hlt, hk⟩ := Array.getElem?_eq_some_iff.1 h
    show (W.heap.modify b _)[b]? = _
    rw [Array.getElem?_eq_getElem (by rw [Array.size_modify]; exact hlt), Array.getElem_modify_self, hk]
    rfl
  generalize W.setCell ⟨b, 0, none⟩ u' = W1 at h1 ⊢
  obtain ⟨hlt, hk⟩ := Array.getElem?_eq_some_iff.1 h1
  show (W1.heap.modify b _)[b]? = _
  rw [Array.getElem?_eq_getElem (by rw [Array.size_modify]; exact hlt), Array.getElem_modify_self, hk]
  rfl
theorem hp_other {W : World} {b k : Nat} {o o' : Obj} (h : W.heap[b]? = some o') (hk : b ≠ k) : (W.putObj k o).heap[b]? = some o' := (World.putObj_heap_other hk).trans h
structure SW (w0 : World) (n : Int) (s l y : Rat) (m : Int) (st : Obj) (W : World) : Prop where
  below : Below w0.heap.size w0 W
  b0 : W.heap[w0.heap.size]? = some (.cells #[.int .i64 n] 3 (0, 0))
  b1 : W.heap[w0.heap.size + 1]? = some (.cells #[.string ⟨#[]⟩, .string ⟨#[]⟩] 25 (0, 0))
  b2 : W.heap[w0.heap.size + 2]? = some (.cells #[sQ s] 22 (0, 0))
  b3 : W.heap[w0.heap.size + 3]? = some (.cells #[sQ l] 22 (0, 0))
  b4 : W.heap[w0.heap.size + 4]? = some (.cells #[.int .i64 m] 3 (0, 0))
  b5 : W.heap[w0.heap.size + 5]? = some (.cells #[sQ y] 22 (0, 0))
  b6 : W.heap[w0.heap.size + 6]? = some (.deferred (some []))
  b7 : W.heap[w0.heap.size + 7]? = some st
theorem hp_keep {W W' : World} (h : Below W.heap.size W W') {k : Nat} {o : Obj} (hk : W.heap[k]? = some o) : W'.heap[k]? = some o :=
  (h.block k (Array.getElem?_eq_some_iff.1 hk).1).trans hk
theorem setC_same {W : World} {b : Nat} {u v : Value} {t : TypeId} (h : W.heap[b]? = some (.cells #[u] t (0, 0))) : (W.setCell ⟨b, 0, none⟩ v).heap[b]? = some (.cells #[v] t (0, 0)) := by
  obtain ⟨hlt, hk⟩ := Array.getElem?_eq_some_iff.1 h
  show (W.heap.modify b _)[b]? = _
  rw [Array.getElem?_eq_getElem (by rw [Array.size_modify]; exact hlt), Array.getElem_modify_self, hk]
  rfl
theorem setC_other {W : World} {b k : Nat} {v : Value} {o : Obj} (h : W.heap[k]? = some o) (hk : k ≠ b) : (W.setCell ⟨b, 0, none⟩ v).heap[k]? = some o :=
  (Below.heap_setCell W ⟨b, 0, none⟩ v k hk).trans h
section
variable {w0 : World} {n m : Int} {s l y : Rat} {st : Obj} {W : World}
theorem SW.grow (h : SW w0 n s l y m st W) {W' : World} (hB : Below W.heap.size W W') : SW w0 n s l y m st W' :=
  ⟨h.below.trans (hB.mono h.below.size), hp_keep hB h.b0, hp_keep hB h.b1, hp_keep hB h.b2, hp_keep hB h.b3, hp_keep hB h.b4, hp_keep hB h.b5, hp_keep hB h.b6, hp_keep hB h.b7⟩
theorem SW.set2 (h : SW w0 n s l y m st W) (s' : Rat) : SW w0 n s' l y m st (W.setCell ⟨w0.heap.size + 2, 0, none⟩ (sQ s')) :=
  ⟨h.below.setCell (Nat.le_add_right _ _) _, setC_other h.b0 (by omega), setC_other h.b1 (by omega), setC_same h.b2, setC_other h.b3 (by omega), setC_other h.b4 (by omega), setC_other h.b5 (by omega), setC_other h.b6 (by omega), setC_other h.b7 (by omega)⟩
theorem SW.set3 (h : SW w0 n s l y m st W) (s' : Rat) : SW w0 n s s' y m st (W.setCell ⟨w0.heap.size + 3, 0, none⟩ (sQ s')) :=
  ⟨h.below.setCell (Nat.le_add_right _ _) _, setC_other h.b0 (by omega), setC_other h.b1 (by omega), setC_other h.b2 (by omega), setC_same h.b3, setC_other h.b4 (by omega), setC_other h.b5 (by omega), setC_other h.b6 (by omega), setC_other h.b7 (by omega)⟩
theorem SW.set4 (h : SW w0 n s l y m st W) (s' : Int) : SW w0 n s l y s' st (W.setCell ⟨w0.heap.size + 4, 0, none⟩ (.int .i64 s')) :=
  ⟨h.below.setCell (Nat.le_add_right _ _) _, setC_other h.b0 (by omega), setC_other h.b1 (by omega), setC_other h.b2 (by omega), setC_other h.b3 (by omega), setC_same h.b4, setC_other h.b5 (by omega), setC_other h.b6 (by omega), setC_other h.b7 (by omega)⟩
theorem SW.set5 (h : SW w0 n s l y m st W) (s' : Rat) : SW w0 n s l s' m st (W.setCell ⟨w0.heap.size + 5, 0, none⟩ (sQ s')) :=
  ⟨h.below.setCell (Nat.le_add_right _ _) _, setC_other h.b0 (by omega), setC_other h.b1 (by omega), setC_other h.b2 (by omega), setC_other h.b3 (by omega), setC_other h.b4 (by omega), setC_same h.b5, setC_other h.b6 (by omega), setC_other h.b7 (by omega)⟩
theorem SW.put7 (h : SW w0 n s l y m st W) (st' : Obj) : SW w0 n s l y m st' (W.putObj (w0.heap.size + 7) st') := by
  have hlt := (Array.getElem?_eq_some_iff.1 h.b7).1
  have ho : ∀ {k : Nat} {o : Obj}, W.heap[k]? = some o → k ≠ w0.heap.size + 7 → (W.putObj (w0.heap.size + 7) st').heap[k]? = some o := fun hk hne => (World.putObj_heap_other hne).trans hk
  refine ⟨⟨h.below.os, h.below.tape, h.below.output, by simpa using h.below.size, fun k hk => (World.putObj_heap_other (by omega)).trans (h.below.block k hk)⟩, ho h.b0 (by omega), ho h.b1 (by omega), ho h.b2 (by omega), ho h.b3 (by omega), ho h.b4 (by omega), ho h.b5 (by omega), ho h.b6 (by omega), World.putObj_heap_same hlt⟩
theorem SW.round {P : Program} {n' D fn : Nat} {tmps : Array Value} {ps : Array Tmp} {assign body : Code} {args : Array Value} {R : Ending → World → Prop} (a₁ : Act) (h : SW w0 n s l y m (recOf fn tmps ps assign body D .ready none) W) (hs : args.size = ps.size)
    (hassign : ∀ K : Act → World → Prop, K a₁ W → assign.wpIn (Fence.wide.inRound (w0.heap.size + 7)) n' P (Exit.then K (fun _ _ _ => False)) { tmps := (ps.zip args).foldl (fun t (p, v) => t.setIfInBounds p v) tmps, defers := [] } W)
    (hbody : ∀ W1, SW w0 n s l y m (recOf fn tmps ps assign body D .busy none) W1 → body.wpIn (Fence.wide.inRound (w0.heap.size + 7)) n' P (roundPost P (w0.heap.size + 7) R) a₁ W1) :
    YieldAt Fence.wide n' P (w0.heap.size + 7) args W R := range_round a₁ h.b7 hs hassign (hbody _ (h.put7 _))
theorem SW.jump {P : Program} {n' D fn : Nat} {tmps : Array Value} {ps : Array Tmp} {assign body c : Code} {Q : Exit → Act → World → Prop} {a : Act} {v : Value} (h : SW w0 n s l y m (recOf fn tmps ps assign body D .done (some c)) W)
    (hn : ∀ W9 st, SW w0 n s l y m st W9 → c.wpIn Fence.wide n' P Q a W9) : rangePost Fence.wide n' P (w0.heap.size + 7) Q a (.returned v) W := range_jump h.b7 (hn _ _ (h.put7 _))
end
theorem al_get (w : World) (o : Obj) (k : Nat) : (w.alloc o).heap[k]? = if k = w.heap.size then some o else w.heap[k]? := Array.getElem?_push
theorem al8 (w : World) (o0 o1 o2 o3 o4 o5 o6 o7 : Obj) : ∀ W, W = (((((((w.alloc o0).alloc o1).alloc o2).alloc o3).alloc o4).alloc o5).alloc o6).alloc o7 → Below w.heap.size w W ∧ W.heap[w.heap.size]? = some o0 ∧ W.heap[w.heap.size + 1]? = some o1 ∧ W.heap[w.heap.size + 2]? = some o2 ∧ W.heap[w.heap.size + 3]? = some o3 ∧ W.heap[w.heap.size + 4]? = some o4 ∧ W.heap[w.heap.size + 5]? = some o5 ∧ W.heap[w.heap.size + 6]? = some o6 ∧ W.heap[w.heap.size + 7]? = some o7 := by
  rintro W rfl
  refine ⟨((((((((Below.refl _ w).alloc (by simp) _).alloc (by simp; try omega) _).alloc (by simp; try omega) _).alloc (by simp; try omega) _).alloc (by simp; try omega) _).alloc (by simp; try omega) _).alloc (by simp; try omega) _).alloc (by simp; try omega) _, ?_, ?_, ?_, ?_, ?_, ?_, ?_, ?_⟩
  all_goals
    simp only [al_get, World.size_alloc]
    repeat (first | rw [if_pos trivial] | rw [if_pos (by omega)] | rw [if_neg (by omega)])
theorem SW.start {w W : World} {n : Int} {x : Rat} {st : Obj} (h : W = (((((((w.alloc (.cells #[.int .i64 n] 3)).alloc (.cells #[.string ⟨#[]⟩, .string ⟨#[]⟩] 25)).alloc (.cells #[.string ⟨#[48]⟩] 22)).alloc (.cells #[.string ⟨#[48]⟩] 22)).alloc (.cells #[.int .i64 0] 3)).alloc (.cells #[sQ x] 22)).alloc (.deferred (some []))).alloc st) : SW w n 0 0 x 0 st W := by
  obtain ⟨hb, h0, h1, h2, h3, h4, h5, h6, h7⟩ := al8 w _ _ _ _ _ _ _ _ W h
  clear h
  exact ⟨hb, h0, h1, by rw [sQ_0]; exact h2, by rw [sQ_0]; exact h3, h4, h5, h6, h7⟩
theorem terms_in (F : Fence) (n : Nat) (h6 : F.fn 122) (hro : F.round = none) (x : Rat) (w : World) :
    CallsIn F n Tryz.prog 122 #[sQ x] w fun e w' => e = .returned (.func (.func 148) #[] #[.pointer (some ⟨w.heap.size, 0, none⟩)]) ∧ w' = w.alloc (.cells #[sQ x] 22) := by
  refine callsIn_of_wp Tryz.func122 rfl h6 ?_ hro
  simp only [Tryz.ntmps122, List.size_toArray, List.length_cons, List.length_nil, Nat.reduceAdd, Nat.reduceSub, Array.replicate_succ, Array.replicate_zero, List.push_toArray, List.append_toArray, List.nil_append, List.cons_append]
  gi_wp2
  go_ret
  exact ⟨rfl, rfl⟩
theorem ser_gen (x : Rat) (n : Nat) (hn : n ≤ 80) (hz : ∀ k, k ≤ n + 1 → Sz 1900 (xk x k)) (w : World) (hG : Gd w) (fn : FuncId) (tmps : Array Value) (assign body : Code)
    (hY : ∀ k W, k ≤ n → SW w n (psum x k) (psum x (k - 1)) (xk x k) k (recOf fn tmps #[11] assign body (w.heap.size + 6) .ready none) W → YieldAt Fence.wide 2 Tryz.prog (w.heap.size + 7) #[sQ (tm x k)] W fun e W' =>
      (e = .returned (.bool true) ∧ k + 1 ≤ n ∧ SW w n (psum x (k + 1)) (psum x k) (xk x k) (k + 1 : Nat) (recOf fn tmps #[11] assign body (w.heap.size + 6) .ready none) W') ∨
      (e = .returned (.bool false) ∧ SW w n (psum x (n + 1)) (psum x n) (xk x n) (n + 1 : Nat) (recOf fn tmps #[11] assign body (w.heap.size + 6) .done (some (.exit 0))) W')) :
    CallsIn Fence.wide 3 Tryz.prog 148 (#[.func (.yield (w.heap.size + 7)) #[] #[]] ++ #[.pointer (some ⟨w.heap.size + 5, 0, none⟩)])
      ((((((((w.alloc (.cells #[.int .i64 n] 3)).alloc (.cells #[.string ⟨#[]⟩, .string ⟨#[]⟩] 25)).alloc (.cells #[.string ⟨#[48]⟩] 22)).alloc (.cells #[.string ⟨#[48]⟩] 22)).alloc (.cells #[.int .i64 0] 3)).alloc (.cells #[sQ x] 22)).alloc (.deferred (some []))).alloc (recOf fn tmps #[11] assign body (w.heap.size + 6) .ready none))
      fun e W' => (∃ v, e = .returned v) ∧ SW w n (psum x (n + 1)) (psum x n) (xk x n) (n + 1 : Nat) (recOf fn tmps #[11] assign body (w.heap.size + 6) .done (some (.exit 0))) W' := by
  refine terms1_in (w.heap.size + 7) (w.heap.size + 5) x (n + 1) (by omega) hz
    (fun k W => k ≤ n ∧ SW w n (psum x k) (psum x (k - 1)) (xk x k) k (recOf fn tmps #[11] assign body (w.heap.size + 6) .ready none) W)
    (fun k W => k + 1 ≤ n ∧ SW w n (psum x (k + 1)) (psum x k) (xk x k) (k + 1 : Nat) (recOf fn tmps #[11] assign body (w.heap.size + 6) .ready none) W)
    _ (fun k W h => ⟨by omega, h.2.b5, gd _ _ hG h.2.below⟩) (fun k W W' h hB => ⟨h.1, h.2.grow hB⟩) (fun k W h => ⟨h.2.b5, gd _ _ hG h.2.below⟩) (fun k W W' h hB => ⟨h.1, h.2.grow hB⟩)
    (fun k W h => ⟨h.1, h.2.set5 _⟩) (fun k W h => ?_) _ ⟨Nat.zero_le _, SW.start rfl⟩
  obtain ⟨fn', t', as', bd', h1, h2⟩ := hY k W h.1 h.2
  exact ⟨fn', t', as', bd', h1, h2.mono fun e W' h => by
    rcases h with ⟨h1, h2, h3⟩ | ⟨h1, h2⟩
    · exact .inl ⟨h1, h2, h3⟩
    · exact .inr ⟨h1, h2⟩⟩
set_option maxRecDepth 100000 in
set_option maxHeartbeats 4000000 in
theorem ser_calls (x : Rat) (n : Nat) (hn : n ≤ 80) (hz : ∀ k, k ≤ n + 1 → Sz 1900 (xk x k)) (hp : ∀ k, k ≤ n + 1 → Sz 3900 (psum x k)) (ht : ∀ k, k ≤ n → Sz 3900 (tm x k)) (w : World) (hG : Gd w) :
    Calls Tryz.prog 81 #[sQ x, .int .i64 (n : Int)] w fun e w' => e = .returned (.agg #[sQ (serQ x n).1, sQ (serQ x n).2]) ∧ Below w.heap.size w w' := by
  refine (callsIn_wide (n := 4)).1 ?_
  refine callsIn_of_wp_marks Tryz.func81 rfl trivial ?_ rfl
  simp only [Tryz.ntmps81, List.size_toArray, List.length_cons, List.length_nil, Nat.reduceAdd, Nat.reduceSub, Array.replicate_succ, Array.replicate_zero, List.push_toArray, List.append_toArray, List.nil_append, List.cons_append]
  gi_wp2
  refine ⟨trivial, ?_⟩
  refine (terms_in _ _ trivial rfl x _).mono ?_
  rintro e w' ⟨rfl, rfl⟩
  gi_wp2
  refine range_start 3 (gf := 148) (lb := #[.pointer (some ⟨w.heap.size + 5, 0, none⟩)]) rfl (enters_of Tryz.func148 (by kernel_rfl) rfl) ?_
  intro fn
  simp only [World.size_alloc, Nat.add_assoc, Nat.reduceAdd]
  refine (ser_gen x n hn hz w hG fn _ _ _ ?hY).mono ?_
  case hY =>
    intro k W hk hs
    refine hs.round { tmps := #[sQ x, Value.int .i64 (n : Int), undef, .pointer (some ⟨w.heap.size, 0, none⟩), .pointer (some ⟨w.heap.size + 1, 0, none⟩), .pointer (some ⟨w.heap.size + 2, 0, none⟩), .pointer (some ⟨w.heap.size + 3, 0, none⟩), .pointer (some ⟨w.heap.size + 4, 0, none⟩), sQ (tm x k), sQ x, .func (.func 148) #[] #[.pointer (some ⟨w.heap.size + 5, 0, none⟩)], sQ (tm x k), undef, undef, undef, undef, undef, undef, undef, undef, undef, undef, undef, undef], defers := [] } rfl ?assign ?body
    case assign =>
      intro K hK
      gi_wp2
      exact hK
    case body =>
      intro W1 h1
      have c2 := cell_hp h1.b2
      have c3 := cell_hp h1.b3
      have c4 := cell_hp h1.b4
      have c0 := cell_hp h1.b0
      have hG1 : Gd W1.drew := gd _ _ hG h1.below.drew
      gi_wp2
      gi_region_with (refine ⟨trivial, ?_⟩; refine (CallsIn.inRound _ (callsIn_wide.2 (call2 (aadd_q (psum x k) (tm x k) ((hp k (by omega)).mono (by omega)) ((ht k hk).mono (by omega))) _ hG1))).mono ?_; rintro e W2 ⟨rfl, hB2⟩; have h2 := h1.grow ((Below.refl _ W1).drew.trans hB2); have d2 := cell_hp h2.b2; have d3 := cell_hp h2.b3; have f2 := cell_fz h2.b2; have f3 := cell_fz h2.b3)
      all_goals
        have h3 := (h2.set3 (psum x k)).set2 (psum x k + tm x k)
        generalize (W2.setCell _ _).setCell _ _ = W3 at h3 ⊢
        have e4 := cell_hp h3.b4
        have f4 := cell_fz h3.b4
        have hw : wrap64 ((k : Int) + 1) = ((k + 1 : Nat) : Int) := by unfold wrap64; omega
        have h4 := h3.set4 ((k : Int) + 1)
        have e5 := cell_hp h4.b4
        have e0 := cell_hp h4.b0
        gi_wp2
      all_goals first
        | (refine round_go h4.b7 (.inl ⟨rfl, by omega, ?_⟩); exact h4.put7 _)
        | (obtain rfl : k = n := by omega
           refine round_exit h4.b7 (.inr ⟨rfl, ?_⟩); exact h4.put7 _)
  · rintro e W8 ⟨⟨v, rfl⟩, h8⟩
    refine h8.jump fun W9 st h9 => ?_
    have c2 := cell_hp h9.b2
    have c3 := cell_hp h9.b3
    have hG9 := gd _ _ hG h9.below
    gi_wp2
    refine ⟨trivial, ?_⟩
    refine (callsIn_wide.2 (call2v (abet_q (psum x n) (psum x (n + 1)) ((hp n (by omega)).mono (by omega)) ((hp (n + 1) (by omega)).mono (by omega))) W9 hG9)).mono ?_
    rintro e W10 ⟨rfl, hB10⟩
    have h10 := h9.grow hB10
    obtain ⟨g0, g1, fz0, fz1⟩ := cell2_hp h10.b1
    gi_wp2
    have hb11 := (h10.below.setCell (p := ⟨w.heap.size + 1, 0, none⟩) (Nat.le_add_right _ _) (sQ (serQ x n).1)).setCell (p := ⟨w.heap.size + 1, 1, none⟩) (Nat.le_add_right _ _) (sQ (serQ x n).2)
    have hD := (Below.heap_setCell (W10.setCell ⟨w.heap.size + 1, 0, none⟩ (sQ (serQ x n).1)) ⟨w.heap.size + 1, 1, none⟩ (sQ (serQ x n).2) (w.heap.size + 6) (by simp)).trans ((Below.heap_setCell W10 ⟨w.heap.size + 1, 0, none⟩ (sQ (serQ x n).1) (w.heap.size + 6) (by simp)).trans h10.b6)
    have hc := set2c (u' := sQ (serQ x n).1) (v' := sQ (serQ x n).2) h10.b1
    unfold serQ at hb11 hD hc ⊢
    generalize (W10.setCell _ _).setCell _ _ = W11 at hb11 hD hc ⊢
    refine ⟨by simp, .inl ⟨_, _, rfl, run_takeDeferred hD, ?_⟩⟩
    have hd := hp_other hc (k := w.heap.size + 6) (o := .deferred none) (by omega)
    have hb12 := hb11.trans (belowK_b (w := w) (Nat.le_refl _) W11 (w.heap.size + 6) _ (.deferred none) (by omega) hD rfl rfl)
    obtain ⟨g0, g1, fz0, fz1⟩ := cell2_hp hd
    generalize W11.putObj _ _ = W12 at hd hb12 g0 g1 fz0 fz1 ⊢
    refine ⟨_, ?_, rfl, hb12⟩
    simp [results, Tryz.f81, go_sem, g0, g1, fz0, fz1]
theorem ser_q (x : Rat) (n : Nat) (hn : n ≤ 80) (hz : ∀ k, k ≤ n + 1 → Sz 1900 (xk x k)) (hp : ∀ k, k ≤ n + 1 → Sz 3900 (psum x k)) (ht : ∀ k, k ≤ n → Sz 3900 (tm x k)) :
    Meets Tryz.prog Gd 81 [rtP x, iP (n : Int)] (ivQ (serQ x n)) := by
  refine ⟨enters_of Tryz.func81 (by kernel_rfl) rfl, fun B vs w hB hr hG => ?_⟩
  simp only [RepL, RepP, rtP, strP, iP] at hr
  obtain ⟨a, xs, rfl, rfl, b, ys, rfl, rfl, rfl⟩ := hr
  refine (ser_calls x n hn hz hp ht w hG).mono ?_
  rintro e W' ⟨rfl, hb⟩
  refine ⟨_, rfl, ?_, hb⟩
  rw [ivQ_iv]
  simp [ivP, strP, RepP, RepL]
end Go.Proofs.YtolehnkoocnenaaGreatDoor.S
namespace Gb
open Go Go.RowKit Go.Sx
theorem Sz.addT {k m : Nat} {x y : Rat} (hx : Sz k x) (hy : Sz m y) : Sz (k + m + 1) (x + y) := by
  rw [Rat.add_def]
  have h1 := Lw_imul x.num y.den
  have h2 := Lw_imul y.num x.den
  have h3 := Lw_iadd (x.num * y.den) (y.num * x.den)
  have h4 := Lw_mul x.den y.den
  have := hx.1; have := hx.2; have := hy.1; have := hy.2
  rw [Int.natAbs_natCast] at h1 h2
  exact Sz.norm _ (by omega) (by omega)
theorem Sz.mulT {k m : Nat} {x y : Rat} (hx : Sz k x) (hy : Sz m y) : Sz (k + m) (x * y) := by
  rw [Rat.mul_def]
  have h2 := Lw_imul x.num y.num
  have h4 := Lw_mul x.den y.den
  have := hx.1; have := hx.2; have := hy.1; have := hy.2
  exact Sz.norm _ (by omega) (by omega)
theorem Sz.divT {k m : Nat} {x y : Rat} (hx : Sz k x) (hy : Sz m y) (hm : 1 ≤ m) : Sz (k + m) (x / y) := by
  rw [Rat.div_def]; exact hx.mulT (hy.inv hm)
theorem Sz.subT {k m : Nat} {x y : Rat} (hx : Sz k x) (hy : Sz m y) : Sz (k + m + 1) (x - y) := by
  rw [Rat.sub_eq_add_neg]; exact hx.addT hy.neg
theorem xk_sz {a : Nat} {x : Rat} (h : Sz a x) (ha : 1 ≤ a) : ∀ k, Sz ((2 * k + 1) * a) (xk x k)
  | 0 => h.mono (by omega)
  | k + 1 => ((xk_sz h ha k).mulT (Sz.neg1 (Sz0 (a + a) (by omega)) (h.mulT h))).mono (by grind)
theorem tm_sz {a : Nat} {x : Rat} (h : Sz a x) (ha : 1 ≤ a) (k : Nat) (hk : k < 100) : Sz ((2 * k + 1) * a + 1) (tm x k) := (xk_sz h ha k).divT (od_sz k hk) (by omega)
theorem psum_sz {a : Nat} {x : Rat} (h : Sz a x) (ha : 1 ≤ a) : ∀ k, k < 100 → Sz (k * k * a + 2 * k + 1) (psum x k)
  | 0, _ => Sz0 _ (by omega)
  | k + 1, hk => ((psum_sz h ha k (by omega)).addT (tm_sz h ha k (by omega))).mono (by grind)
theorem betQ_sz {k : Nat} {a b : Rat} (ha : Sz k a) (hb : Sz k b) : SzI k (betQ a b) := by unfold betQ; split <;> exact ⟨by assumption, by assumption⟩
theorem betQ_le (a b : Rat) : (betQ a b).1 ≤ (betQ a b).2 := by unfold betQ; split <;> grind
theorem betQ_join (a b : Rat) : joinQ (a, a) (b, b) = betQ a b := by unfold joinQ betQ leastQ mostQ; grind
theorem serQ_sz {a : Nat} {x : Rat} (h : Sz a x) (ha : 1 ≤ a) (n : Nat) (hn : n ≤ 6) : SzI (49 * a + 15) (serQ x n) := by
  have h1 : n * n * a ≤ 36 * a := Nat.mul_le_mul_right a (by have := Nat.mul_le_mul hn hn; omega)
  have h2 : (n + 1) * (n + 1) * a ≤ 49 * a := Nat.mul_le_mul_right a (by have := Nat.mul_le_mul (show n + 1 ≤ 7 by omega) (show n + 1 ≤ 7 by omega); omega)
  exact betQ_sz ((psum_sz h ha n (by omega)).mono (by omega)) ((psum_sz h ha (n + 1) (by omega)).mono (by omega))
theorem serQ_le (x : Rat) (n : Nat) : (serQ x n).1 ≤ (serQ x n).2 := betQ_le _ _
def timQ (p : Rat × Rat) (k : Rat) : Rat × Rat := betQ (p.1 * k) (p.2 * k)
def minQ (p q : Rat × Rat) : Rat × Rat := (p.1 - q.2, p.2 - q.1)
theorem timQ_le (p : Rat × Rat) (k : Rat) : (timQ p k).1 ≤ (timQ p k).2 := betQ_le _ _
theorem minQ_le {p q : Rat × Rat} (hp : p.1 ≤ p.2) (hq : q.1 ≤ q.2) : (minQ p q).1 ≤ (minQ p q).2 := by unfold minQ; grind
theorem timQ_sz {k m : Nat} {p : Rat × Rat} {x : Rat} (hp : SzI k p) (hx : Sz m x) : SzI (k + m) (timQ p x) := betQ_sz (hp.1.mulT hx) (hp.2.mulT hx)
theorem minQ_sz {k m : Nat} {p q : Rat × Rat} (hp : SzI k p) (hq : SzI m q) : SzI (k + m + 1) (minQ p q) := ⟨hp.1.subT hq.2, hp.2.subT hq.1⟩
theorem timQ_scale (p : Rat × Rat) (k : Rat) : scaleQ p k = timQ p k := betQ_join _ _
def piQ (n : Nat) : Rat × Rat := minQ (timQ (serQ (1 / 5) n) 16) (timQ (serQ (1 / 239) n) 4)
def arcU (x : Rat) (n : Nat) : Rat × Rat := minQ (timQ (piQ n) (1 / 4)) (serQ ((1 - x) / (1 + x)) n)
def inH (x : Rat) : Bool := !decide (1 / 2 < x) && !decide (x < 0 - 1 / 2)
def arcQ (x : Rat) (n : Nat) : Rat × Rat := if inH x then serQ x n else if x < 0 then timQ (arcU (0 - x) n) (-1) else arcU x n
def degQ (x : Rat) (n : Nat) : Rat × Rat := overQ (timQ (arcQ x n) 360) (piQ n)
theorem cst (l : List UInt8) (x : Rat) (h : (isRat l && decide (ratOf l = x)) = true) : rtP x = strP l ∧ Sz (l.length / 9 + 1) x := by
  simp only [Bool.and_eq_true, decide_eq_true_eq] at h
  rw [← h.2]
  exact ⟨rtP_of h.1, Sz.text h.1⟩
theorem c15 : rtP ((1 / 5)) = strP [49, 47, 53] ∧ Sz 1 ((1 / 5) : Rat) := cst [49, 47, 53] ((1 / 5)) (by decide +kernel)
theorem c1239 : rtP ((1 / 239)) = strP [49, 47, 50, 51, 57] ∧ Sz 1 ((1 / 239) : Rat) := cst [49, 47, 50, 51, 57] ((1 / 239)) (by decide +kernel)
theorem c16 : rtP (16) = strP [49, 54] ∧ Sz 1 (16 : Rat) := cst [49, 54] (16) (by decide +kernel)
theorem c4 : rtP (4) = strP [52] ∧ Sz 1 (4 : Rat) := cst [52] (4) (by decide +kernel)
theorem c12 : rtP ((1 / 2)) = strP [49, 47, 50] ∧ Sz 1 ((1 / 2) : Rat) := cst [49, 47, 50] ((1 / 2)) (by decide +kernel)
theorem c14 : rtP ((1 / 4)) = strP [49, 47, 52] ∧ Sz 1 ((1 / 4) : Rat) := cst [49, 47, 52] ((1 / 4)) (by decide +kernel)
theorem c360 : rtP (360) = strP [51, 54, 48] ∧ Sz 1 (360 : Rat) := cst [51, 54, 48] (360) (by decide +kernel)
theorem cm1 : rtP ((-1)) = strP [45, 49] ∧ Sz 1 ((-1) : Rat) := cst [45, 49] ((-1)) (by decide +kernel)
theorem c90 : rtP (90) = strP [57, 48] ∧ Sz 1 (90 : Rat) := cst [57, 48] (90) (by decide +kernel)
theorem c1 : rtP (1) = strP [49] ∧ Sz 1 (1 : Rat) := cst [49] (1) (by decide +kernel)
theorem c0 : rtP (0) = strP [48] ∧ Sz 1 (0 : Rat) := cst [48] (0) (by decide +kernel)
theorem piQ_sz (n : Nat) (hn : n ≤ 6) : SzI 131 (piQ n) := (minQ_sz (timQ_sz (serQ_sz (c15.2) (by omega) n hn) (c16.2)) (timQ_sz (serQ_sz (c1239.2) (by omega) n hn) (c4.2))).mono (by omega)
theorem piQ_le (n : Nat) : (piQ n).1 ≤ (piQ n).2 := minQ_le (timQ_le _ _) (timQ_le _ _)
theorem piQ_pos (n : Nat) (h1 : 1 ≤ n) (h2 : n ≤ 6) : 3 < (piQ n).1 := by
  have : (List.range 6).all (fun k => decide (3 < (piQ (k + 1)).1)) = true := by decide +kernel
  have := List.all_eq_true.1 this (n - 1) (List.mem_range.2 (by omega))
  rw [show n - 1 + 1 = n by omega] at this
  simpa using this
end Gb
namespace Gb
open Go Go.RowKit Go.Sx
end Gb
namespace Go.Proofs.YtolehnkoocnenaaGreatDoor.S
open Go Go.Sx Go.RowKit Gb Go.Shelf
end Go.Proofs.YtolehnkoocnenaaGreatDoor.S
namespace Gb
open Go Go.RowKit Go.Sx
def q6C (x : Rat) : List PV := [.val (.bool (decide (x.num < 0))), .sl (wl x.num.natAbs).length ((wl x.num.natAbs).map wv), .sl (wl x.den).length ((wl x.den).map wv)]
theorem q6C_c (x : Rat) : q6C x = [.val (.bool (decide (x.num < 0))), .sl (wl x.num.natAbs).length ((wl x.num.natAbs).map wv), .sl (wl x.den).length ((wl x.den).map wv)] := rfl
theorem xk_neg (x : Rat) (k : Nat) : xk x (k + 1) = xk x k * -(x * x) := by show xk x k * (0 - x * x) = _; grind
theorem tm_inv (x : Rat) (k : Nat) : xk x k * (1 / ((od k : Int) : Rat)) = tm x k := by unfold tm; rw [Rat.div_def, Rat.div_def, Rat.one_mul]
theorem norm_frac {p : Int} {m : Nat} (h : m ≠ 0) : Rat.normalize p m h = (p : Rat) / ((m : Int) : Rat) := by rw [Rat.normalize_eq_mkRat, Rat.mkRat_eq_div]; rfl
theorem u32n {m : Nat} (h : m < 4294967296) : IntKind.u32.wrap (m : Int) = (m : Int) := by rw [IntKind.wrap_u32]; omega
end Gb
namespace Go.Proofs.YtolehnkoocnenaaGreatDoor.S
open Go Go.Sx Go.RowKit Gb Go.Shelf
set_option maxRecDepth 100000 in
theorem frac6_n (p n : Int) (hp1 : -1000 ≤ p) (hp2 : p ≤ 1000) (h1 : 1 ≤ n) (h2 : n ≤ 1000000) : Meets Tryz.prog Gd 86 [iP p, iP n] (qP ((p : Rat) / (n : Rat))) := by
  refine meets_of_vc (Y := {}) (N := 11) (rs := [.cell 4 60]) mix tk gd Tryz.func86 rfl (by kernel_rfl) rfl rfl (by simp) (by kernel_rfl) ?_
  obtain ⟨m, rfl⟩ : ∃ m : Nat, n = (m : Int) := ⟨n.toNat, by omega⟩
  simp (maxSteps := 10000000) only [↓sx, sx, ↓ty, ↓reduceIte, Nat.reduceEqDiff, Nat.reduceBeqDiff, Nat.reduceAdd, Nat.reduceLeDiff, Nat.reduceLT, Nat.reduceMul, Nat.reduceSub, Int.reduceEq, Int.reduceBNe, Int.reduceBEq, ne_eq, not_false_eq_true, pc, ls, bs, and_true, true_and, and_self, Nat.reduceAdd, Nat.le_refl, leafP, pi, pj]
  refine CallT.mk (t := ⟨⟩) (small2_n gd p (by omega) (by omega)) ?_
  simp (maxSteps := 10000000) only [↓sx, sx, ↓ty, ↓reduceIte, Nat.reduceEqDiff, Nat.reduceBeqDiff, Nat.reduceAdd, Nat.reduceLeDiff, Nat.reduceLT, Nat.reduceMul, Nat.reduceSub, Int.reduceEq, Int.reduceBNe, Int.reduceBEq, ne_eq, not_false_eq_true, pc, ls, bs, and_true, true_and, and_self, Nat.reduceAdd, Nat.le_refl, leafP, pi, pj, u32n (show m < 4294967296 by omega)]
  refine CallT.mk (t := ⟨⟩) (small_n gd m (by omega)) ?_
  simp (maxSteps := 10000000) only [↓sx, sx, ↓ty, ↓reduceIte, Nat.reduceEqDiff, Nat.reduceBeqDiff, Nat.reduceAdd, Nat.reduceLeDiff, Nat.reduceLT, Nat.reduceMul, Nat.reduceSub, Int.reduceEq, Int.reduceBNe, Int.reduceBEq, ne_eq, not_false_eq_true, pc, ls, bs, and_true, true_and, and_self, Nat.reduceAdd, Nat.le_refl, leafP, pi, pj]
  refine CallT.to (t := ⟨⟩) (lowest_q gd p m ((p : Rat) / ((m : Int) : Rat)) (by omega) (Nat.lt_of_le_of_lt (Lw_le (k := 1) (by omega)) (by decide)) (Nat.lt_of_le_of_lt (Lw_le (k := 2) (by show m < 1000000000 ^ 2; omega)) (by decide)) (norm_frac _)) rfl ?_
  simp (maxSteps := 10000000) only [↓sx, sx, ↓ty, ↓reduceIte, Nat.reduceEqDiff, Nat.reduceBeqDiff, Nat.reduceAdd, Nat.reduceLeDiff, Nat.reduceLT, Nat.reduceMul, Nat.reduceSub, Int.reduceEq, Int.reduceBNe, Int.reduceBEq, ne_eq, not_false_eq_true, pc, ls, bs, and_true, true_and, and_self, Nat.reduceAdd, Nat.le_refl, leafP, pi, pj]
set_option maxRecDepth 100000 in
theorem mid6_n (x y : Rat) (hx : Sz 10000 x) (hy : Sz 10000 y) : Meets Tryz.prog Gd 57 [qP x, qP y] (qP ((x + y) * (1 / 2))) := by
  refine meets_of_vc (Y := {}) (N := 10) (rs := [.cell 4 60]) mix tk gd Tryz.func57 rfl (by kernel_rfl) rfl rfl (by simp) (by kernel_rfl) ?_
  have F : Meets Tryz.prog Gd 86 [iP 1, iP 2] (qP (1 / 2)) := frac6_n 1 2 (by omega) (by omega) (by omega) (by omega)
  simp (maxSteps := 10000000) only [↓sx, sx, ↓ty, ↓reduceIte, Nat.reduceEqDiff, Nat.reduceBeqDiff, Nat.reduceAdd, Nat.reduceLeDiff, Nat.reduceLT, Nat.reduceMul, Nat.reduceSub, Int.reduceEq, Int.reduceBNe, Int.reduceBEq, ne_eq, not_false_eq_true, pc, ls, bs, and_true, true_and, and_self, Nat.reduceAdd, Nat.le_refl, leafP, pi, pj]
  refine CallT.mk (t := ⟨⟩) (add3_n gd x y (hx.mono (by omega)) (hy.mono (by omega))) ?_
  simp (maxSteps := 10000000) only [↓sx, sx, ↓ty, ↓reduceIte, Nat.reduceEqDiff, Nat.reduceBeqDiff, Nat.reduceAdd, Nat.reduceLeDiff, Nat.reduceLT, Nat.reduceMul, Nat.reduceSub, Int.reduceEq, Int.reduceBNe, Int.reduceBEq, ne_eq, not_false_eq_true, pc, ls, bs, and_true, true_and, and_self, Nat.reduceAdd, Nat.le_refl, leafP, pi, pj]
  refine CallT.mk (t := ⟨⟩) F ?_
  simp (maxSteps := 10000000) only [↓sx, sx, ↓ty, ↓reduceIte, Nat.reduceEqDiff, Nat.reduceBeqDiff, Nat.reduceAdd, Nat.reduceLeDiff, Nat.reduceLT, Nat.reduceMul, Nat.reduceSub, Int.reduceEq, Int.reduceBNe, Int.reduceBEq, ne_eq, not_false_eq_true, pc, ls, bs, and_true, true_and, and_self, Nat.reduceAdd, Nat.le_refl, leafP, pi, pj]
  refine CallT.mk (t := ⟨⟩) (mul3_n gd (x + y) (1 / 2) ((hx.add hy).mono (by omega)) (c12.2.mono (by omega))) ?_
  simp (maxSteps := 10000000) only [↓sx, sx, ↓ty, ↓reduceIte, Nat.reduceEqDiff, Nat.reduceBeqDiff, Nat.reduceAdd, Nat.reduceLeDiff, Nat.reduceLT, Nat.reduceMul, Nat.reduceSub, Int.reduceEq, Int.reduceBNe, Int.reduceBEq, ne_eq, not_false_eq_true, pc, ls, bs, and_true, true_and, and_self, Nat.reduceAdd, Nat.le_refl, leafP, pi, pj]
set_option maxRecDepth 100000 in
theorem betw6_n (x : Rat) (a b : Int) (hx : Sz 10000 x) (ha1 : -1000 ≤ a) (ha2 : a ≤ 1000) (hb1 : -1000 ≤ b) (hb2 : b ≤ 1000) : Meets Tryz.prog Gd 55 [qP x, iP a, iP b] (.val (.bool (decide (0 ≤ (x - (a : Rat)).num.sign) && decide ((x - (b : Rat)).num.sign ≤ 0)))) := by
  refine meets_of_vc (Y := {}) (N := 19) (rs := [.tmp 6]) mix tk gd Tryz.func55 rfl (by kernel_rfl) rfl rfl (by simp) (by kernel_rfl) ?_
  have za : Sz 1 (a : Rat) := Sz.int (Nat.le_trans (Lw_le (k := 1) (by omega)) (by omega)) (by omega)
  have zb : Sz 1 (b : Rat) := Sz.int (Nat.le_trans (Lw_le (k := 1) (by omega)) (by omega)) (by omega)
  simp (maxSteps := 10000000) only [↓sx, sx, ↓ty, ↓reduceIte, Nat.reduceEqDiff, Nat.reduceBeqDiff, Nat.reduceAdd, Nat.reduceLeDiff, Nat.reduceLT, Nat.reduceMul, Nat.reduceSub, Int.reduceEq, Int.reduceBNe, Int.reduceBEq, ne_eq, not_false_eq_true, pc, ls, bs, and_true, true_and, and_self, Nat.reduceAdd, Nat.le_refl, leafP, pi, pj]
  refine CallT.mk (t := ⟨⟩) (int3_n gd a (by omega) (by omega)) ?_
  simp (maxSteps := 10000000) only [↓sx, sx, ↓ty, ↓reduceIte, Nat.reduceEqDiff, Nat.reduceBeqDiff, Nat.reduceAdd, Nat.reduceLeDiff, Nat.reduceLT, Nat.reduceMul, Nat.reduceSub, Int.reduceEq, Int.reduceBNe, Int.reduceBEq, ne_eq, not_false_eq_true, pc, ls, bs, and_true, true_and, and_self, Nat.reduceAdd, Nat.le_refl, leafP, pi, pj]
  refine CallT.mk (t := ⟨⟩) (cmp3_n gd x (a : Rat) (hx.mono (by omega)) (za.mono (by omega))) ?_
  cases h : decide (0 ≤ (x - (a : Rat)).num.sign) with
  | false =>
    simp (maxSteps := 10000000) only [↓sx, sx, ↓ty, ↓reduceIte, Nat.reduceEqDiff, Nat.reduceBeqDiff, Nat.reduceAdd, Nat.reduceLeDiff, Nat.reduceLT, Nat.reduceMul, Nat.reduceSub, Int.reduceEq, Int.reduceBNe, Int.reduceBEq, ne_eq, not_false_eq_true, pc, ls, bs, and_true, true_and, and_self, Nat.reduceAdd, Nat.le_refl, leafP, pi, pj, h]
  | true =>
    simp (maxSteps := 10000000) only [↓sx, sx, ↓ty, ↓reduceIte, Nat.reduceEqDiff, Nat.reduceBeqDiff, Nat.reduceAdd, Nat.reduceLeDiff, Nat.reduceLT, Nat.reduceMul, Nat.reduceSub, Int.reduceEq, Int.reduceBNe, Int.reduceBEq, ne_eq, not_false_eq_true, pc, ls, bs, and_true, true_and, and_self, Nat.reduceAdd, Nat.le_refl, leafP, pi, pj, h]
    refine CallT.mk (t := ⟨⟩) (int3_n gd b (by omega) (by omega)) ?_
    simp (maxSteps := 10000000) only [↓sx, sx, ↓ty, ↓reduceIte, Nat.reduceEqDiff, Nat.reduceBeqDiff, Nat.reduceAdd, Nat.reduceLeDiff, Nat.reduceLT, Nat.reduceMul, Nat.reduceSub, Int.reduceEq, Int.reduceBNe, Int.reduceBEq, ne_eq, not_false_eq_true, pc, ls, bs, and_true, true_and, and_self, Nat.reduceAdd, Nat.le_refl, leafP, pi, pj]
    refine CallT.mk (t := ⟨⟩) (cmp3_n gd x (b : Rat) (hx.mono (by omega)) (zb.mono (by omega))) ?_
    simp (maxSteps := 10000000) only [↓sx, sx, ↓ty, ↓reduceIte, Nat.reduceEqDiff, Nat.reduceBeqDiff, Nat.reduceAdd, Nat.reduceLeDiff, Nat.reduceLT, Nat.reduceMul, Nat.reduceSub, Int.reduceEq, Int.reduceBNe, Int.reduceBEq, ne_eq, not_false_eq_true, pc, ls, bs, and_true, true_and, and_self, Nat.reduceAdd, Nat.le_refl, leafP, pi, pj]
set_option maxRecDepth 100000 in
theorem terms6_n (n : Int) : Meets Tryz.prog Gd 40 [iP n] (.val (.bool (decide (1 ≤ n) && decide (n ≤ 24)))) := by
  refine meets_of_vc (Y := {}) (N := 9) (rs := [.tmp 2]) mix tk gd Tryz.func40 rfl (by kernel_rfl) rfl rfl (by simp) (by kernel_rfl) ?_
  cases h : decide (1 ≤ n) with
  | false => simp (maxSteps := 10000000) only [↓sx, sx, ↓ty, ↓reduceIte, Nat.reduceEqDiff, Nat.reduceBeqDiff, Nat.reduceAdd, Nat.reduceLeDiff, Nat.reduceLT, Nat.reduceMul, Nat.reduceSub, Int.reduceEq, Int.reduceBNe, Int.reduceBEq, ne_eq, not_false_eq_true, pc, ls, bs, and_true, true_and, and_self, Nat.reduceAdd, Nat.le_refl, leafP, h]
  | true => simp (maxSteps := 10000000) only [↓sx, sx, ↓ty, ↓reduceIte, Nat.reduceEqDiff, Nat.reduceBeqDiff, Nat.reduceAdd, Nat.reduceLeDiff, Nat.reduceLT, Nat.reduceMul, Nat.reduceSub, Int.reduceEq, Int.reduceBNe, Int.reduceBEq, ne_eq, not_false_eq_true, pc, ls, bs, and_true, true_and, and_self, Nat.reduceAdd, Nat.le_refl, leafP, h]
set_option maxRecDepth 100000 in
set_option maxHeartbeats 8000000 in
theorem ser6_n (x : Rat) (a n : Nat) (hx : Sz a x) (ha : 1 ≤ a) (ha2 : a ≤ 30) (hn : n ≤ 6) : Meets Tryz.prog Gd 85 [qP x, iP (n : Int)] (iqP (serQ x n)) := by
  refine meets_of_vc (Y := {}) (N := 39) (rs := [.cell 4 62]) mix tk gd Tryz.func85 rfl (by kernel_rfl) rfl rfl (by simp) (by kernel_rfl) ?_
  have zx : Sz 30 x := hx.mono ha2
  have Z := int3_n gd 0 (by omega) (by omega)
  rw [show ((0 : Int) : Rat) = 0 from rfl] at Z
  have hm : ∀ k, k ≤ 7 → k * k * a ≤ 49 * a := fun k hk => Nat.mul_le_mul_right a (by have := Nat.mul_le_mul hk hk; omega)
  have ho : ∀ k, k ≤ 7 → (2 * k + 1) * a ≤ 15 * a := fun k hk => Nat.mul_le_mul_right a (by omega)
  have sk : ∀ k, k ≤ 7 → Sz 450 (xk x k) := fun k hk => (xk_sz hx ha k).mono (by have := ho k hk; omega)
  have st : ∀ k, k ≤ 7 → Sz 451 (tm x k) := fun k hk => (tm_sz hx ha k (by omega)).mono (by have := ho k hk; omega)
  have sp : ∀ k, k ≤ 7 → Sz 1500 (psum x k) := fun k hk => (psum_sz hx ha k (by omega)).mono (by have := hm k hk; omega)
  simp (maxSteps := 10000000) only [↓sx, sx, ↓ty, ↓reduceIte, Nat.reduceEqDiff, Nat.reduceBeqDiff, Nat.reduceAdd, Nat.reduceLeDiff, Nat.reduceLT, Nat.reduceMul, Nat.reduceSub, Int.reduceEq, Int.reduceBNe, Int.reduceBEq, ne_eq, not_false_eq_true, pc, ls, bs, and_true, true_and, and_self, Nat.reduceAdd, Nat.le_refl, leafP, pi, pj]
  refine CallT.mk (t := ⟨⟩) (mul3_n gd x x (zx.mono (by omega)) (zx.mono (by omega))) ?_
  simp (maxSteps := 10000000) only [↓sx, sx, ↓ty, ↓reduceIte, Nat.reduceEqDiff, Nat.reduceBeqDiff, Nat.reduceAdd, Nat.reduceLeDiff, Nat.reduceLT, Nat.reduceMul, Nat.reduceSub, Int.reduceEq, Int.reduceBNe, Int.reduceBEq, ne_eq, not_false_eq_true, pc, ls, bs, and_true, true_and, and_self, Nat.reduceAdd, Nat.le_refl, leafP, pi, pj]
  refine CallT.mk (t := ⟨⟩) (neg3_n gd (x * x)) ?_
  simp (maxSteps := 10000000) only [↓sx, sx, ↓ty, ↓reduceIte, Nat.reduceEqDiff, Nat.reduceBeqDiff, Nat.reduceAdd, Nat.reduceLeDiff, Nat.reduceLT, Nat.reduceMul, Nat.reduceSub, Int.reduceEq, Int.reduceBNe, Int.reduceBEq, ne_eq, not_false_eq_true, pc, ls, bs, and_true, true_and, and_self, Nat.reduceAdd, Nat.le_refl, leafP, pi, pj]
  refine CallT.mk (t := ⟨⟩) Z ?_
  simp (maxSteps := 10000000) only [↓sx, sx, ↓ty, ↓reduceIte, Nat.reduceEqDiff, Nat.reduceBeqDiff, Nat.reduceAdd, Nat.reduceLeDiff, Nat.reduceLT, Nat.reduceMul, Nat.reduceSub, Int.reduceEq, Int.reduceBNe, Int.reduceBEq, ne_eq, not_false_eq_true, pc, ls, bs, and_true, true_and, and_self, Nat.reduceAdd, Nat.le_refl, leafP, pi, pj]
  refine CallT.mk (t := ⟨⟩) Z ?_
  simp (maxSteps := 10000000) only [↓sx, sx, ↓ty, ↓reduceIte, Nat.reduceEqDiff, Nat.reduceBeqDiff, Nat.reduceAdd, Nat.reduceLeDiff, Nat.reduceLT, Nat.reduceMul, Nat.reduceSub, Int.reduceEq, Int.reduceBNe, Int.reduceBEq, ne_eq, not_false_eq_true, pc, ls, bs, and_true, true_and, and_self, Nat.reduceAdd, Nat.le_refl, leafP, pi, pj]
  refine loopK_of (fun i : Nat => [(1, .p (iP n)), (2, .box 2 0), (4, .box 4 0), (5, .box 5 0), (6, .box 6 0), (7, .box 7 0), (8, .box 8 0), (9, .p (.val (.int .i64 (i : Nat))))]) (fun i => [(2, (60, q6C x)), (4, (62, [.val (.bool false), .sl 0 [], .sl 0 [], .val (.bool false), .sl 0 [], .sl 0 []])), (5, (60, q6C (xk x i))), (6, (60, q6C (-(x * x)))), (7, (60, q6C (psum x i))), (8, (60, q6C (psum x (i - 1))))]) (fun _ => []) (fun i => i ≤ n + 1) (fun i => n + 1 - i) 0 (Nat.zero_le _) ?_ ?_
  · simp (maxSteps := 10000000) only [isE_nil, is_cons, bo_p, bo_box, bo_orow, bo_rowp, any_cons', all_cons', all_nil', Bool.true_or, Bool.or_true, ↓sx, sx, ↓reduceIte, Nat.reduceEqDiff, Nat.reduceBeqDiff, q6C_c]
    exact ⟨rfl, rfl, rfl, rfl⟩
  · intro i hi
    by_cases hil : i ≤ n
    · have e1 : decide ((i : Int) ≤ (n : Int)) = true := decide_eq_true (by omega)
      have hw : IntKind.i64.wrap (IntKind.i64.wrap (2 * (i : Int)) + 1) = od i := by
        rw [show IntKind.i64.wrap (2 * (i : Int)) = 2 * (i : Int) from i64_id (by omega) (by omega), i64_id (by omega) (by omega)]; rfl
      have F : Meets Tryz.prog Gd 86 [iP 1, iP (od i)] (qP (1 / ((od i : Int) : Rat))) := frac6_n 1 (od i) (by omega) (by omega) (by unfold od; omega) (by unfold od; omega)
      have M := mul3_n gd (xk x i) (1 / ((od i : Int) : Rat)) ((sk i (by omega)).mono (by omega)) (((c1.2.divT (od_sz i (by omega)) (by omega))).mono (by omega))
      rw [tm_inv] at M
      have A : Meets Tryz.prog Gd 78 [qP (psum x i), qP (tm x i)] (qP (psum x (i + 1))) := add3_n gd (psum x i) (tm x i) ((sp i (by omega)).mono (by omega)) ((st i (by omega)).mono (by omega))
      have M2 := mul3_n gd (xk x i) (-(x * x)) ((sk i (by omega)).mono (by omega)) (((zx.mul zx).neg).mono (by omega))
      rw [← xk_neg] at M2
      generalize 1 / ((od i : Int) : Rat) = fr at F M
      simp (maxSteps := 10000000) only [↓sx, sx, ↓ty, ↓reduceIte, Nat.reduceEqDiff, Nat.reduceBeqDiff, Nat.reduceAdd, Nat.reduceLeDiff, Nat.reduceLT, Nat.reduceMul, Nat.reduceSub, Int.reduceEq, Int.reduceBNe, Int.reduceBEq, ne_eq, not_false_eq_true, pc, ls, bs, and_true, true_and, and_self, Nat.reduceAdd, Nat.le_refl, leafP, pi, pj, q6C_c, e1, hw]
      refine CallT.mk (t := ⟨⟩) F ?_
      simp (maxSteps := 10000000) only [↓sx, sx, ↓ty, ↓reduceIte, Nat.reduceEqDiff, Nat.reduceBeqDiff, Nat.reduceAdd, Nat.reduceLeDiff, Nat.reduceLT, Nat.reduceMul, Nat.reduceSub, Int.reduceEq, Int.reduceBNe, Int.reduceBEq, ne_eq, not_false_eq_true, pc, ls, bs, and_true, true_and, and_self, Nat.reduceAdd, Nat.le_refl, leafP, pi, pj]
      refine CallT.mk (t := ⟨⟩) M ?_
      simp (maxSteps := 10000000) only [↓sx, sx, ↓ty, ↓reduceIte, Nat.reduceEqDiff, Nat.reduceBeqDiff, Nat.reduceAdd, Nat.reduceLeDiff, Nat.reduceLT, Nat.reduceMul, Nat.reduceSub, Int.reduceEq, Int.reduceBNe, Int.reduceBEq, ne_eq, not_false_eq_true, pc, ls, bs, and_true, true_and, and_self, Nat.reduceAdd, Nat.le_refl, leafP, pi, pj]
      refine CallT.mk (t := ⟨⟩) A ?_
      simp (maxSteps := 10000000) only [↓sx, sx, ↓ty, ↓reduceIte, Nat.reduceEqDiff, Nat.reduceBeqDiff, Nat.reduceAdd, Nat.reduceLeDiff, Nat.reduceLT, Nat.reduceMul, Nat.reduceSub, Int.reduceEq, Int.reduceBNe, Int.reduceBEq, ne_eq, not_false_eq_true, pc, ls, bs, and_true, true_and, and_self, Nat.reduceAdd, Nat.le_refl, leafP, pi, pj]
      refine CallT.mk (t := ⟨⟩) M2 ?_
      simp (maxSteps := 10000000) only [↓sx, sx, ↓ty, ↓reduceIte, Nat.reduceEqDiff, Nat.reduceBeqDiff, Nat.reduceAdd, Nat.reduceLeDiff, Nat.reduceLT, Nat.reduceMul, Nat.reduceSub, Int.reduceEq, Int.reduceBNe, Int.reduceBEq, ne_eq, not_false_eq_true, pc, ls, bs, and_true, true_and, and_self, Nat.reduceAdd, Nat.le_refl, leafP, pi, pj]
      refine NextK.mk (i + 1) (by omega) (by omega) ?_
      simp (maxSteps := 10000000) only [isE_nil, is_cons, bo_p, bo_box, bo_orow, bo_rowp, any_cons', all_cons', all_nil', Bool.true_or, Bool.or_true, ↓sx, sx, ↓reduceIte, Nat.reduceEqDiff, Nat.reduceBeqDiff, q6C_c]
      rw [i64_id (by omega) (by omega)]
      exact ⟨rfl, rfl, rfl⟩
    · obtain rfl : i = n + 1 := by omega
      have e1 : decide (((n + 1 : Nat) : Int) ≤ (n : Int)) = false := decide_eq_false (by omega)
      have J := join4_n (psum x n, psum x n) (psum x (n + 1), psum x (n + 1)) ⟨(sp n (by omega)).mono (by omega), (sp n (by omega)).mono (by omega)⟩ ⟨(sp (n + 1) (by omega)).mono (by omega), (sp (n + 1) (by omega)).mono (by omega)⟩
      rw [betQ_join] at J
      unfold serQ
      generalize betQ (psum x n) (psum x (n + 1)) = r at J ⊢
      simp (maxSteps := 10000000) only [↓sx, sx, ↓ty, ↓reduceIte, Nat.reduceEqDiff, Nat.reduceBeqDiff, Nat.reduceAdd, Nat.reduceLeDiff, Nat.reduceLT, Nat.reduceMul, Nat.reduceSub, Int.reduceEq, Int.reduceBNe, Int.reduceBEq, ne_eq, not_false_eq_true, pc, ls, bs, and_true, true_and, and_self, Nat.reduceAdd, Nat.le_refl, leafP, pi, pj, q6C_c, e1, Nat.add_sub_cancel]
      refine CallT.mk (t := ⟨⟩) (just4_n (psum x n)) ?_
      simp (maxSteps := 10000000) only [↓sx, sx, ↓ty, ↓reduceIte, Nat.reduceEqDiff, Nat.reduceBeqDiff, Nat.reduceAdd, Nat.reduceLeDiff, Nat.reduceLT, Nat.reduceMul, Nat.reduceSub, Int.reduceEq, Int.reduceBNe, Int.reduceBEq, ne_eq, not_false_eq_true, pc, ls, bs, and_true, true_and, and_self, Nat.reduceAdd, Nat.le_refl, leafP, pi, pj]
      refine CallT.mk (t := ⟨⟩) (just4_n (psum x (n + 1))) ?_
      simp (maxSteps := 10000000) only [↓sx, sx, ↓ty, ↓reduceIte, Nat.reduceEqDiff, Nat.reduceBeqDiff, Nat.reduceAdd, Nat.reduceLeDiff, Nat.reduceLT, Nat.reduceMul, Nat.reduceSub, Int.reduceEq, Int.reduceBNe, Int.reduceBEq, ne_eq, not_false_eq_true, pc, ls, bs, and_true, true_and, and_self, Nat.reduceAdd, Nat.le_refl, leafP, pi, pj]
      refine CallT.mk (t := ⟨⟩) J ?_
      simp (maxSteps := 10000000) only [↓sx, sx, ↓ty, ↓reduceIte, Nat.reduceEqDiff, Nat.reduceBeqDiff, Nat.reduceAdd, Nat.reduceLeDiff, Nat.reduceLT, Nat.reduceMul, Nat.reduceSub, Int.reduceEq, Int.reduceBNe, Int.reduceBEq, ne_eq, not_false_eq_true, pc, ls, bs, and_true, true_and, and_self, Nat.reduceAdd, Nat.le_refl, leafP, pi, pj]
end Go.Proofs.YtolehnkoocnenaaGreatDoor.S
namespace Go.Proofs.YtolehnkoocnenaaGreatDoor.S
open Go Go.Sx Go.RowKit Gb Go.Shelf
set_option maxRecDepth 100000 in
theorem bothq_n (a b : List UInt8) (ha : a.length < 90000) (hb : b.length < 90000) : Meets Tryz.prog Gd 73 [strP a, strP b] (.tup [qP (rd a), qP (rd b), iP (if isRat a && isRat b then 0 else 1)]) := by
  refine meets_of_vc (Y := { ex := [4, 5] }) (N := 31) (rs := [.cell 4 60, .cell 5 60, .tmp 6]) mix tk gd Tryz.func73 rfl (by kernel_rfl) rfl rfl (by simp) (by kernel_rfl) ?_
  have f1 := from3_n gd a (by omega)
  have f2 := from3_n gd b (by omega)
  rw [show (if isRat a = true then ratOf a else 0) = rd a from rfl] at f1
  rw [show (if isRat b = true then ratOf b else 0) = rd b from rfl] at f2
  simp (maxSteps := 10000000) only [↓sx, sx, ↓ty, ↓reduceIte, Nat.reduceEqDiff, Nat.reduceBeqDiff, Nat.reduceAdd, Nat.reduceLeDiff, Nat.reduceLT, Nat.reduceMul, Nat.reduceSub, Int.reduceEq, Int.reduceBNe, Int.reduceBEq, ne_eq, not_false_eq_true, pc, ls, bs, and_true, true_and, and_self, Nat.reduceAdd, Nat.le_refl, leafP, pi, pj]
  refine CallT.mk f1 ?_
  simp (maxSteps := 10000000) only [↓sx, sx, ↓ty, ↓reduceIte, Nat.reduceEqDiff, Nat.reduceBeqDiff, Nat.reduceAdd, Nat.reduceLeDiff, Nat.reduceLT, Nat.reduceMul, Nat.reduceSub, Int.reduceEq, Int.reduceBNe, Int.reduceBEq, ne_eq, not_false_eq_true, pc, ls, bs, and_true, true_and, and_self, Nat.reduceAdd, Nat.le_refl, leafP, pi, pj]
  refine CallT.mk f2 ?_
  cases h1 : isRat a with
  | false =>
    simp only [Bool.false_and, Bool.false_eq_true, if_false]
    simp (maxSteps := 10000000) only [↓sx, sx, ↓ty, ↓reduceIte, Nat.reduceEqDiff, Nat.reduceBeqDiff, Nat.reduceAdd, Nat.reduceLeDiff, Nat.reduceLT, Nat.reduceMul, Nat.reduceSub, Int.reduceEq, Int.reduceBNe, Int.reduceBEq, ne_eq, not_false_eq_true, pc, ls, bs, and_true, true_and, and_self, Nat.reduceAdd, Nat.le_refl, leafP, pi, pj]
    first | exact ⟨by kernel_rfl, rfl⟩ | kernel_rfl
  | true =>
    cases h2 : isRat b with
    | false =>
      simp only [Bool.and_false, Bool.false_eq_true, if_false]
      simp (maxSteps := 10000000) only [↓sx, sx, ↓ty, ↓reduceIte, Nat.reduceEqDiff, Nat.reduceBeqDiff, Nat.reduceAdd, Nat.reduceLeDiff, Nat.reduceLT, Nat.reduceMul, Nat.reduceSub, Int.reduceEq, Int.reduceBNe, Int.reduceBEq, ne_eq, not_false_eq_true, pc, ls, bs, and_true, true_and, and_self, Nat.reduceAdd, Nat.le_refl, leafP, pi, pj]
      first | exact ⟨by kernel_rfl, rfl⟩ | kernel_rfl
    | true =>
      simp only [Bool.and_self, if_true]
      simp (maxSteps := 10000000) only [↓sx, sx, ↓ty, ↓reduceIte, Nat.reduceEqDiff, Nat.reduceBeqDiff, Nat.reduceAdd, Nat.reduceLeDiff, Nat.reduceLT, Nat.reduceMul, Nat.reduceSub, Int.reduceEq, Int.reduceBNe, Int.reduceBEq, ne_eq, not_false_eq_true, pc, ls, bs, and_true, true_and, and_self, Nat.reduceAdd, Nat.le_refl, leafP, pi, pj]
      first | exact ⟨by kernel_rfl, rfl⟩ | kernel_rfl
end Go.Proofs.YtolehnkoocnenaaGreatDoor.S
namespace Gb
open Go Go.RowKit Go.Sx
def cntE (n : Int) : Int := if n < 1 ∨ 24 < n then 2 else 0
def askE (t : List UInt8) (n : Int) : Int := if achk [t] = 0 then cntE n else achk [t]
theorem inU_rec {x : Rat} (h : inU x = true) : (0 - 1 ≤ x) ∧ x ≤ 1 := by
  unfold inU at h
  simp only [Bool.and_eq_true, Bool.not_eq_true', decide_eq_false_iff_not] at h
  grind
theorem ivQ_pair (p : Rat × Rat) : ivQ p = ivP (rT p.1) (rT p.2) := rfl
end Gb
namespace Go.Proofs.YtolehnkoocnenaaGreatDoor.S
open Go Go.Sx Go.RowKit Gb Go.Shelf
set_option maxRecDepth 100000 in
theorem atimes_q (p : Rat × Rat) (k : Rat) (hp : SzI 1900 p) (hk : Sz 1900 k) : Meets Tryz.prog Gd 82 [ivQ p, rtP k] (ivQ (timQ p k)) := by
  refine meets_of_vc (Y := {}) (N := 14) (rs := [.cell 4 96]) mix tk gd Tryz.func82 rfl (by kernel_rfl) rfl rfl (by simp) (by kernel_rfl) ?_
  obtain ⟨a, b⟩ := p
  rw [ivQ_pair]
  unfold timQ
  dsimp only
  have B := abet_q (a * k) (b * k) ((hp.1.mul hk).mono (by omega)) ((hp.2.mul hk).mono (by omega))
  generalize betQ (a * k) (b * k) = r at B ⊢
  rw [ivQ_pair r] at B ⊢
  simp (maxSteps := 10000000) only [↓sx, sx, ↓ty, ↓reduceIte, Nat.reduceEqDiff, Nat.reduceBeqDiff, Nat.reduceAdd, Nat.reduceLeDiff, Nat.reduceLT, Nat.reduceMul, Nat.reduceSub, Int.reduceEq, Int.reduceBNe, Int.reduceBEq, ne_eq, not_false_eq_true, pc, ls, bs, and_true, true_and, and_self, Nat.reduceAdd, Nat.le_refl, leafP, pi]
  refine CallT.mk (t := ⟨⟩) (amul_q a k (hp.1.mono (by omega)) (hk.mono (by omega))) ?_
  simp (maxSteps := 10000000) only [↓sx, sx, ↓ty, ↓reduceIte, Nat.reduceEqDiff, Nat.reduceBeqDiff, Nat.reduceAdd, Nat.reduceLeDiff, Nat.reduceLT, Nat.reduceMul, Nat.reduceSub, Int.reduceEq, Int.reduceBNe, Int.reduceBEq, ne_eq, not_false_eq_true, pc, ls, bs, and_true, true_and, and_self, Nat.reduceAdd, Nat.le_refl, leafP, pi]
  refine CallT.mk (t := ⟨⟩) (amul_q b k (hp.2.mono (by omega)) (hk.mono (by omega))) ?_
  simp (maxSteps := 10000000) only [↓sx, sx, ↓ty, ↓reduceIte, Nat.reduceEqDiff, Nat.reduceBeqDiff, Nat.reduceAdd, Nat.reduceLeDiff, Nat.reduceLT, Nat.reduceMul, Nat.reduceSub, Int.reduceEq, Int.reduceBNe, Int.reduceBEq, ne_eq, not_false_eq_true, pc, ls, bs, and_true, true_and, and_self, Nat.reduceAdd, Nat.le_refl, leafP, pi]
  refine CallT.mk (t := ⟨⟩) B ?_
  simp (maxSteps := 10000000) only [↓sx, sx, ↓ty, ↓reduceIte, Nat.reduceEqDiff, Nat.reduceBeqDiff, Nat.reduceAdd, Nat.reduceLeDiff, Nat.reduceLT, Nat.reduceMul, Nat.reduceSub, Int.reduceEq, Int.reduceBNe, Int.reduceBEq, ne_eq, not_false_eq_true, pc, ls, bs, and_true, true_and, and_self, Nat.reduceAdd, Nat.le_refl, leafP, pi]
set_option maxRecDepth 100000 in
theorem aminus_q (p q : Rat × Rat) (hp : p.1 ≤ p.2) (hq : q.1 ≤ q.2) (sp : SzI 700 p) (sq : SzI 700 q) : Meets Tryz.prog Gd 83 [ivQ p, ivQ q] (ivQ (minQ p q)) := by
  refine meets_of_vc (Y := {}) (N := 14) (rs := [.cell 4 25]) mix tk gd Tryz.func83 rfl (by kernel_rfl) rfl rfl (by simp) (by kernel_rfl) ?_
  have S := isub2_n (rT p.1) (rT p.2) (rT q.1) (rT q.2) (by have := rT_len sp.1; omega) (by have := rT_len sp.2; omega) (by have := rT_len sq.1; omega) (by have := rT_len sq.2; omega)
  unfold icorP at S
  rw [isIv_rT hp, isIv_rT hq, ratOf_rT, ratOf_rT, ratOf_rT, ratOf_rT, corQ_sub hp hq, if_pos (show (true && true) = true from rfl)] at S
  rw [ivQ_pair p, ivQ_pair q]
  rw [ivQ_pair (minQ p q)]
  unfold minQ
  rw [ivQ_pair] at S
  simp (maxSteps := 10000000) only [↓sx, sx, ↓ty, ↓reduceIte, Nat.reduceEqDiff, Nat.reduceBeqDiff, Nat.reduceAdd, Nat.reduceLeDiff, Nat.reduceLT, Nat.reduceMul, Nat.reduceSub, Int.reduceEq, Int.reduceBNe, Int.reduceBEq, ne_eq, not_false_eq_true, pc, ls, bs, and_true, true_and, and_self, Nat.reduceAdd, Nat.le_refl, leafP, pi]
  refine CallT.mk (t := ⟨⟩) S ?_
  simp (maxSteps := 10000000) only [↓sx, sx, ↓ty, ↓reduceIte, Nat.reduceEqDiff, Nat.reduceBeqDiff, Nat.reduceAdd, Nat.reduceLeDiff, Nat.reduceLT, Nat.reduceMul, Nat.reduceSub, Int.reduceEq, Int.reduceBNe, Int.reduceBEq, ne_eq, not_false_eq_true, pc, ls, bs, and_true, true_and, and_self, Nat.reduceAdd, Nat.le_refl, leafP, pi]
set_option maxRecDepth 100000 in
theorem acount_n (n : Int) : Meets Tryz.prog Gd 38 [iP n] (iP (cntE n)) := by
  refine meets_of_vc (Y := {}) (N := 9) (rs := [.tmp 2]) mix tk gd Tryz.func38 rfl (by kernel_rfl) rfl rfl (by simp) (by kernel_rfl) ?_
  unfold cntE
  by_cases h : n < 1
  · have e : decide (n < 1) = true := decide_eq_true h
    rw [if_pos (.inl h)]
    simp (maxSteps := 10000000) only [↓sx, sx, ↓ty, ↓reduceIte, Nat.reduceEqDiff, Nat.reduceBeqDiff, Nat.reduceAdd, Nat.reduceLeDiff, Nat.reduceLT, Nat.reduceMul, Nat.reduceSub, Int.reduceEq, Int.reduceBNe, Int.reduceBEq, ne_eq, not_false_eq_true, pc, ls, bs, and_true, true_and, and_self, Nat.reduceAdd, Nat.le_refl, leafP, e]
  · have e : decide (n < 1) = false := decide_eq_false h
    by_cases h2 : 24 < n
    · have e2 : decide (24 < n) = true := decide_eq_true h2
      rw [if_pos (.inr h2)]
      simp (maxSteps := 10000000) only [↓sx, sx, ↓ty, ↓reduceIte, Nat.reduceEqDiff, Nat.reduceBeqDiff, Nat.reduceAdd, Nat.reduceLeDiff, Nat.reduceLT, Nat.reduceMul, Nat.reduceSub, Int.reduceEq, Int.reduceBNe, Int.reduceBEq, ne_eq, not_false_eq_true, pc, ls, bs, and_true, true_and, and_self, Nat.reduceAdd, Nat.le_refl, leafP, e, e2]
    · have e2 : decide (24 < n) = false := decide_eq_false h2
      rw [if_neg (by omega)]
      simp (maxSteps := 10000000) only [↓sx, sx, ↓ty, ↓reduceIte, Nat.reduceEqDiff, Nat.reduceBeqDiff, Nat.reduceAdd, Nat.reduceLeDiff, Nat.reduceLT, Nat.reduceMul, Nat.reduceSub, Int.reduceEq, Int.reduceBNe, Int.reduceBEq, ne_eq, not_false_eq_true, pc, ls, bs, and_true, true_and, and_self, Nat.reduceAdd, Nat.le_refl, leafP, e, e2]
set_option maxRecDepth 100000 in
theorem aask_n (t : List UInt8) (n : Int) (ht : t.length < 3000) : Meets Tryz.prog Gd 43 [strP t, iP n] (iP (askE t n)) := by
  refine meets_of_vc (Y := {}) (N := 14) (rs := [.tmp 4]) mix tk gd Tryz.func43 rfl (by kernel_rfl) rfl rfl (by simp) (by kernel_rfl) ?_
  have C := acheck_n [t] (by simp) (by simp; omega)
  unfold askE
  simp (maxSteps := 10000000) only [↓sx, sx, ↓ty, ↓reduceIte, Nat.reduceEqDiff, Nat.reduceBeqDiff, Nat.reduceAdd, Nat.reduceLeDiff, Nat.reduceLT, Nat.reduceMul, Nat.reduceSub, Int.reduceEq, Int.reduceBNe, Int.reduceBEq, ne_eq, not_false_eq_true, pc, ls, bs, and_true, true_and, and_self, Nat.reduceAdd, Nat.le_refl, leafP]
  refine CallT.mk (t := ⟨⟩) C ?_
  by_cases h : achk [t] = 0
  · rw [if_pos h, h]
    simp (maxSteps := 10000000) only [↓sx, sx, ↓ty, ↓reduceIte, Nat.reduceEqDiff, Nat.reduceBeqDiff, Nat.reduceAdd, Nat.reduceLeDiff, Nat.reduceLT, Nat.reduceMul, Nat.reduceSub, Int.reduceEq, Int.reduceBNe, Int.reduceBEq, ne_eq, not_false_eq_true, pc, ls, bs, and_true, true_and, and_self, Nat.reduceAdd, Nat.le_refl, leafP]
    refine CallT.mk (t := ⟨⟩) (acount_n n) ?_
    simp (maxSteps := 10000000) only [↓sx, sx, ↓ty, ↓reduceIte, Nat.reduceEqDiff, Nat.reduceBeqDiff, Nat.reduceAdd, Nat.reduceLeDiff, Nat.reduceLT, Nat.reduceMul, Nat.reduceSub, Int.reduceEq, Int.reduceBNe, Int.reduceBEq, ne_eq, not_false_eq_true, pc, ls, bs, and_true, true_and, and_self, Nat.reduceAdd, Nat.le_refl, leafP]
  · have d0 : (achk [t] != 0) = true := by simp [h]
    rw [if_neg h]
    simp (maxSteps := 10000000) only [↓sx, sx, ↓ty, ↓reduceIte, Nat.reduceEqDiff, Nat.reduceBeqDiff, Nat.reduceAdd, Nat.reduceLeDiff, Nat.reduceLT, Nat.reduceMul, Nat.reduceSub, Int.reduceEq, Int.reduceBNe, Int.reduceBEq, ne_eq, not_false_eq_true, pc, ls, bs, and_true, true_and, and_self, Nat.reduceAdd, Nat.le_refl, leafP, d0]
theorem ser_n (x : Rat) (a n : Nat) (h : Sz a x) (ha : 1 ≤ a) (ha2 : a ≤ 30) (hn : n ≤ 6) : Meets Tryz.prog Gd 81 [rtP x, iP (n : Int)] (ivQ (serQ x n)) := by
  have hm : ∀ k, k ≤ 7 → k * k * a ≤ 49 * a := fun k hk => Nat.mul_le_mul_right a (by have := Nat.mul_le_mul hk hk; omega)
  have ho : ∀ k, k ≤ 7 → (2 * k + 1) * a ≤ 15 * a := fun k hk => Nat.mul_le_mul_right a (by omega)
  refine ser_q x n (by omega) (fun k hk => (xk_sz h ha k).mono ?_) (fun k hk => (psum_sz h ha k (by omega)).mono ?_) (fun k hk => (tm_sz h ha k (by omega)).mono ?_)
  · have := ho k (by omega); omega
  · have := hm k (by omega); omega
  · have := ho k (by omega); omega
set_option maxRecDepth 100000 in
theorem api_q (n : Nat) (hn : n ≤ 6) : Meets Tryz.prog Gd 39 [iP (n : Int)] (ivQ (piQ n)) := by
  refine meets_of_vc (Y := {}) (N := 13) (rs := [.cell 2 25]) mix tk gd Tryz.func39 rfl (by kernel_rfl) rfl rfl (by simp) (by kernel_rfl) ?_
  have S1 := ser_n (1 / 5) 1 n c15.2 (by omega) (by omega) hn
  have S2 := ser_n (1 / 239) 1 n c1239.2 (by omega) (by omega) hn
  have z1 := serQ_sz c15.2 (by omega) n hn
  have z2 := serQ_sz c1239.2 (by omega) n hn
  have T1 := atimes_q (serQ (1 / 5) n) 16 (z1.mono (by omega)) (c16.2.mono (by omega))
  have T2 := atimes_q (serQ (1 / 239) n) 4 (z2.mono (by omega)) (c4.2.mono (by omega))
  have M := aminus_q (timQ (serQ (1 / 5) n) 16) (timQ (serQ (1 / 239) n) 4) (timQ_le _ _) (timQ_le _ _) ((timQ_sz z1 c16.2).mono (by omega)) ((timQ_sz z2 c4.2).mono (by omega))
  rw [c15.1] at S1
  rw [c1239.1] at S2
  rw [c16.1] at T1
  rw [c4.1] at T2
  unfold piQ
  generalize minQ (timQ (serQ (1 / 5) n) 16) (timQ (serQ (1 / 239) n) 4) = r at M ⊢
  generalize timQ (serQ (1 / 5) n) 16 = u1 at T1 M
  generalize timQ (serQ (1 / 239) n) 4 = u2 at T2 M
  generalize serQ (1 / 5) n = s1 at S1 T1
  generalize serQ (1 / 239) n = s2 at S2 T2
  rw [ivQ_pair] at S1 S2
  rw [ivQ_pair s1, ivQ_pair u1] at T1
  rw [ivQ_pair s2, ivQ_pair u2] at T2
  rw [ivQ_pair u1, ivQ_pair u2, ivQ_pair r] at M
  rw [ivQ_pair]
  simp (maxSteps := 10000000) only [↓sx, sx, ↓ty, ↓reduceIte, Nat.reduceEqDiff, Nat.reduceBeqDiff, Nat.reduceAdd, Nat.reduceLeDiff, Nat.reduceLT, Nat.reduceMul, Nat.reduceSub, Int.reduceEq, Int.reduceBNe, Int.reduceBEq, ne_eq, not_false_eq_true, pc, ls, bs, and_true, true_and, and_self, Nat.reduceAdd, Nat.le_refl, leafP, pi]
  refine CallT.mk (t := ⟨⟩) S1 ?_
  simp (maxSteps := 10000000) only [↓sx, sx, ↓ty, ↓reduceIte, Nat.reduceEqDiff, Nat.reduceBeqDiff, Nat.reduceAdd, Nat.reduceLeDiff, Nat.reduceLT, Nat.reduceMul, Nat.reduceSub, Int.reduceEq, Int.reduceBNe, Int.reduceBEq, ne_eq, not_false_eq_true, pc, ls, bs, and_true, true_and, and_self, Nat.reduceAdd, Nat.le_refl, leafP, pi]
  refine CallT.mk (t := ⟨⟩) T1 ?_
  simp (maxSteps := 10000000) only [↓sx, sx, ↓ty, ↓reduceIte, Nat.reduceEqDiff, Nat.reduceBeqDiff, Nat.reduceAdd, Nat.reduceLeDiff, Nat.reduceLT, Nat.reduceMul, Nat.reduceSub, Int.reduceEq, Int.reduceBNe, Int.reduceBEq, ne_eq, not_false_eq_true, pc, ls, bs, and_true, true_and, and_self, Nat.reduceAdd, Nat.le_refl, leafP, pi]
  refine CallT.mk (t := ⟨⟩) S2 ?_
  simp (maxSteps := 10000000) only [↓sx, sx, ↓ty, ↓reduceIte, Nat.reduceEqDiff, Nat.reduceBeqDiff, Nat.reduceAdd, Nat.reduceLeDiff, Nat.reduceLT, Nat.reduceMul, Nat.reduceSub, Int.reduceEq, Int.reduceBNe, Int.reduceBEq, ne_eq, not_false_eq_true, pc, ls, bs, and_true, true_and, and_self, Nat.reduceAdd, Nat.le_refl, leafP, pi]
  refine CallT.mk (t := ⟨⟩) T2 ?_
  simp (maxSteps := 10000000) only [↓sx, sx, ↓ty, ↓reduceIte, Nat.reduceEqDiff, Nat.reduceBeqDiff, Nat.reduceAdd, Nat.reduceLeDiff, Nat.reduceLT, Nat.reduceMul, Nat.reduceSub, Int.reduceEq, Int.reduceBNe, Int.reduceBEq, ne_eq, not_false_eq_true, pc, ls, bs, and_true, true_and, and_self, Nat.reduceAdd, Nat.le_refl, leafP, pi]
  refine CallT.mk (t := ⟨⟩) M ?_
  simp (maxSteps := 10000000) only [↓sx, sx, ↓ty, ↓reduceIte, Nat.reduceEqDiff, Nat.reduceBeqDiff, Nat.reduceAdd, Nat.reduceLeDiff, Nat.reduceLT, Nat.reduceMul, Nat.reduceSub, Int.reduceEq, Int.reduceBNe, Int.reduceBEq, ne_eq, not_false_eq_true, pc, ls, bs, and_true, true_and, and_self, Nat.reduceAdd, Nat.le_refl, leafP, pi]
end Go.Proofs.YtolehnkoocnenaaGreatDoor.S
namespace Gb
open Go Go.RowKit Go.Sx
theorem inH_of (x : Rat) : (!decide (1 / 2 < x) && !decide (x < 0 - 1 / 2)) = inH x := rfl
theorem rest_sz {x : Rat} (h : Sz 2 x) : Sz 8 ((1 - x) / (1 + x)) := ((c1.2.subT h).divT (c1.2.addT h) (by omega)).mono (by omega)
theorem arcU_sz {x : Rat} (h : Sz 2 x) (n : Nat) (hn : n ≤ 6) : SzI 540 (arcU x n) := (minQ_sz (timQ_sz (piQ_sz n hn) c14.2) (serQ_sz (rest_sz h) (by omega) n hn)).mono (by omega)
theorem neg_sz2 {x : Rat} (h : Sz 2 x) : Sz 2 (0 - x) := Sz.neg1 (Sz0 _ (by omega)) h
theorem arcQ_sz {x : Rat} (h : Sz 2 x) (n : Nat) (hn : n ≤ 6) : SzI 541 (arcQ x n) := by
  unfold arcQ
  split
  · exact (serQ_sz h (by omega) n hn).mono (by omega)
  · split
    · exact timQ_sz (arcU_sz (neg_sz2 h) n hn) cm1.2
    · exact (arcU_sz h n hn).mono (by omega)
theorem degQ_sz {x : Rat} (h : Sz 2 x) (n : Nat) (hn : n ≤ 6) : SzI 1084 (degQ x n) :=
  (overQ_sz (k := 542) (by omega) (timQ_sz (arcQ_sz h n hn) c360.2) ((piQ_sz n hn).mono (by omega))).mono (by omega)
theorem inU_neg {x : Rat} (h : inU x = true) : inU (0 - x) = true := by
  unfold inU at *
  simp only [Bool.and_eq_true, Bool.not_eq_true', decide_eq_false_iff_not] at *
  grind
theorem inH_big {x : Rat} (h : inH x = false) (h0 : x < 0) : inH (0 - x) = false ∧ ¬ (0 - x < 0) := by
  unfold inH at *
  simp only [Bool.and_eq_false_iff, Bool.not_eq_false', decide_eq_true_eq] at *
  grind
theorem rest_ne {x : Rat} (h : inH x = false) (h0 : ¬ x < 0) : 1 + x ≠ 0 := by grind
end Gb
namespace Go.Proofs.YtolehnkoocnenaaGreatDoor.S
open Go Go.Sx Go.RowKit Gb Go.Shelf
theorem aidiv_q (p q : Rat × Rat) (hp : p.1 ≤ p.2) (hq : q.1 ≤ q.2) (h0 : 0 < q.1) (sp : SzI 700 p) (sq : SzI 700 q) : Meets Tryz.prog Gd 89 [ivQ p, ivQ q] (.tup [ivQ (overQ p q), iP 0]) := by
  have S := idiv2_n (rT p.1) (rT p.2) (rT q.1) (rT q.2) (by have := rT_len sp.1; omega) (by have := rT_len sp.2; omega) (by have := rT_len sq.1; omega) (by have := rT_len sq.2; omega)
  unfold idivP icorP zeroIn at S
  rw [isIv_rT hp, isIv_rT hq, ratOf_rT, ratOf_rT, ratOf_rT, ratOf_rT, corQ_div, decide_eq_true h0] at S
  exact S
set_option maxRecDepth 100000 in
theorem aarc_up (x : Rat) (n : Nat) (hx : Sz 2 x) (hn : n ≤ 6) (h : inH x = false) (h0 : ¬ x < 0) : Meets Tryz.prog Gd 44 [rtP x, iP (n : Int)] (ivQ (arcU x n)) := by
  refine meets_of_vc (Y := {}) (N := 30) (rs := [.cell 4 25]) mix tk gd Tryz.func44 rfl (by kernel_rfl) rfl rfl (by simp) (by kernel_rfl) ?_
  have W := awithin_q x (1 / 2) (hx.mono (by omega)) (c12.2.mono (by omega))
  rw [inH_of, h, c12.1] at W
  have L := aless_q x 0 (hx.mono (by omega)) (Sz0 _ (by omega))
  rw [decide_eq_false h0, c0.1] at L
  have P := api_q n hn
  have T := atimes_q (piQ n) (1 / 4) ((piQ_sz n hn).mono (by omega)) (c14.2.mono (by omega))
  rw [c14.1] at T
  have S := asub_q 1 x (c1.2.mono (by omega)) (hx.mono (by omega))
  have A := aadd_q 1 x (c1.2.mono (by omega)) (hx.mono (by omega))
  rw [c1.1] at S A
  have D := adiv_q (1 - x) (1 + x) ((c1.2.subT hx).mono (by omega)) ((c1.2.addT hx).mono (by omega)) (rest_ne h h0)
  have R := ser_n ((1 - x) / (1 + x)) 8 n (rest_sz hx) (by omega) (by omega) hn
  have M := aminus_q (timQ (piQ n) (1 / 4)) (serQ ((1 - x) / (1 + x)) n) (timQ_le _ _) (serQ_le _ _) ((timQ_sz (piQ_sz n hn) c14.2).mono (by omega)) ((serQ_sz (rest_sz hx) (by omega) n hn).mono (by omega))
  unfold arcU
  generalize minQ (timQ (piQ n) (1 / 4)) (serQ ((1 - x) / (1 + x)) n) = r at M ⊢
  generalize timQ (piQ n) (1 / 4) = u1 at T M
  generalize serQ ((1 - x) / (1 + x)) n = s1 at R M
  generalize piQ n = p1 at P T
  rw [ivQ_pair] at P R
  rw [ivQ_pair p1, ivQ_pair u1] at T
  rw [ivQ_pair u1, ivQ_pair s1, ivQ_pair r] at M
  rw [ivQ_pair]
  simp (maxSteps := 10000000) only [↓sx, sx, ↓ty, ↓reduceIte, Nat.reduceEqDiff, Nat.reduceBeqDiff, Nat.reduceAdd, Nat.reduceLeDiff, Nat.reduceLT, Nat.reduceMul, Nat.reduceSub, Int.reduceEq, Int.reduceBNe, Int.reduceBEq, ne_eq, not_false_eq_true, pc, ls, bs, and_true, true_and, and_self, Nat.reduceAdd, Nat.le_refl, leafP, pi]
  refine CallT.mk (t := ⟨⟩) W ?_
  simp (maxSteps := 10000000) only [↓sx, sx, ↓ty, ↓reduceIte, Nat.reduceEqDiff, Nat.reduceBeqDiff, Nat.reduceAdd, Nat.reduceLeDiff, Nat.reduceLT, Nat.reduceMul, Nat.reduceSub, Int.reduceEq, Int.reduceBNe, Int.reduceBEq, ne_eq, not_false_eq_true, pc, ls, bs, and_true, true_and, and_self, Nat.reduceAdd, Nat.le_refl, leafP, pi]
  refine CallT.mk (t := ⟨⟩) L ?_
  simp (maxSteps := 10000000) only [↓sx, sx, ↓ty, ↓reduceIte, Nat.reduceEqDiff, Nat.reduceBeqDiff, Nat.reduceAdd, Nat.reduceLeDiff, Nat.reduceLT, Nat.reduceMul, Nat.reduceSub, Int.reduceEq, Int.reduceBNe, Int.reduceBEq, ne_eq, not_false_eq_true, pc, ls, bs, and_true, true_and, and_self, Nat.reduceAdd, Nat.le_refl, leafP, pi]
  refine CallT.mk (t := ⟨⟩) P ?_
  simp (maxSteps := 10000000) only [↓sx, sx, ↓ty, ↓reduceIte, Nat.reduceEqDiff, Nat.reduceBeqDiff, Nat.reduceAdd, Nat.reduceLeDiff, Nat.reduceLT, Nat.reduceMul, Nat.reduceSub, Int.reduceEq, Int.reduceBNe, Int.reduceBEq, ne_eq, not_false_eq_true, pc, ls, bs, and_true, true_and, and_self, Nat.reduceAdd, Nat.le_refl, leafP, pi]
  refine CallT.mk (t := ⟨⟩) T ?_
  simp (maxSteps := 10000000) only [↓sx, sx, ↓ty, ↓reduceIte, Nat.reduceEqDiff, Nat.reduceBeqDiff, Nat.reduceAdd, Nat.reduceLeDiff, Nat.reduceLT, Nat.reduceMul, Nat.reduceSub, Int.reduceEq, Int.reduceBNe, Int.reduceBEq, ne_eq, not_false_eq_true, pc, ls, bs, and_true, true_and, and_self, Nat.reduceAdd, Nat.le_refl, leafP, pi]
  refine CallT.mk (t := ⟨⟩) S ?_
  simp (maxSteps := 10000000) only [↓sx, sx, ↓ty, ↓reduceIte, Nat.reduceEqDiff, Nat.reduceBeqDiff, Nat.reduceAdd, Nat.reduceLeDiff, Nat.reduceLT, Nat.reduceMul, Nat.reduceSub, Int.reduceEq, Int.reduceBNe, Int.reduceBEq, ne_eq, not_false_eq_true, pc, ls, bs, and_true, true_and, and_self, Nat.reduceAdd, Nat.le_refl, leafP, pi]
  refine CallT.mk (t := ⟨⟩) A ?_
  simp (maxSteps := 10000000) only [↓sx, sx, ↓ty, ↓reduceIte, Nat.reduceEqDiff, Nat.reduceBeqDiff, Nat.reduceAdd, Nat.reduceLeDiff, Nat.reduceLT, Nat.reduceMul, Nat.reduceSub, Int.reduceEq, Int.reduceBNe, Int.reduceBEq, ne_eq, not_false_eq_true, pc, ls, bs, and_true, true_and, and_self, Nat.reduceAdd, Nat.le_refl, leafP, pi]
  refine CallT.mk (t := ⟨⟩) D ?_
  simp (maxSteps := 10000000) only [↓sx, sx, ↓ty, ↓reduceIte, Nat.reduceEqDiff, Nat.reduceBeqDiff, Nat.reduceAdd, Nat.reduceLeDiff, Nat.reduceLT, Nat.reduceMul, Nat.reduceSub, Int.reduceEq, Int.reduceBNe, Int.reduceBEq, ne_eq, not_false_eq_true, pc, ls, bs, and_true, true_and, and_self, Nat.reduceAdd, Nat.le_refl, leafP, pi]
  refine CallT.mk (t := ⟨⟩) R ?_
  simp (maxSteps := 10000000) only [↓sx, sx, ↓ty, ↓reduceIte, Nat.reduceEqDiff, Nat.reduceBeqDiff, Nat.reduceAdd, Nat.reduceLeDiff, Nat.reduceLT, Nat.reduceMul, Nat.reduceSub, Int.reduceEq, Int.reduceBNe, Int.reduceBEq, ne_eq, not_false_eq_true, pc, ls, bs, and_true, true_and, and_self, Nat.reduceAdd, Nat.le_refl, leafP, pi]
  refine CallT.mk (t := ⟨⟩) M ?_
  simp (maxSteps := 10000000) only [↓sx, sx, ↓ty, ↓reduceIte, Nat.reduceEqDiff, Nat.reduceBeqDiff, Nat.reduceAdd, Nat.reduceLeDiff, Nat.reduceLT, Nat.reduceMul, Nat.reduceSub, Int.reduceEq, Int.reduceBNe, Int.reduceBEq, ne_eq, not_false_eq_true, pc, ls, bs, and_true, true_and, and_self, Nat.reduceAdd, Nat.le_refl, leafP, pi]
set_option maxRecDepth 100000 in
theorem aarc_q (x : Rat) (n : Nat) (hx : Sz 2 x) (hn : n ≤ 6) : Meets Tryz.prog Gd 44 [rtP x, iP (n : Int)] (ivQ (arcQ x n)) := by
  by_cases hu : inH x = false ∧ ¬ x < 0
  · have := aarc_up x n hx hn hu.1 hu.2
    unfold arcQ
    rw [hu.1, if_neg (by simp), if_neg hu.2]
    exact this
  · refine meets_of_vc (Y := {}) (N := 30) (rs := [.cell 4 25]) mix tk gd Tryz.func44 rfl (by kernel_rfl) rfl rfl (by simp) (by kernel_rfl) ?_
    have W := awithin_q x (1 / 2) (hx.mono (by omega)) (c12.2.mono (by omega))
    rw [inH_of, c12.1] at W
    unfold arcQ
    cases h : inH x with
    | true =>
      have R := ser_n x 2 n hx (by omega) (by omega) hn
      rw [h] at W
      rw [if_pos rfl]
      generalize serQ x n = r at R ⊢
      rw [ivQ_pair] at R ⊢
      simp (maxSteps := 10000000) only [↓sx, sx, ↓ty, ↓reduceIte, Nat.reduceEqDiff, Nat.reduceBeqDiff, Nat.reduceAdd, Nat.reduceLeDiff, Nat.reduceLT, Nat.reduceMul, Nat.reduceSub, Int.reduceEq, Int.reduceBNe, Int.reduceBEq, ne_eq, not_false_eq_true, pc, ls, bs, and_true, true_and, and_self, Nat.reduceAdd, Nat.le_refl, leafP, pi]
      refine CallT.mk (t := ⟨⟩) W ?_
      simp (maxSteps := 10000000) only [↓sx, sx, ↓ty, ↓reduceIte, Nat.reduceEqDiff, Nat.reduceBeqDiff, Nat.reduceAdd, Nat.reduceLeDiff, Nat.reduceLT, Nat.reduceMul, Nat.reduceSub, Int.reduceEq, Int.reduceBNe, Int.reduceBEq, ne_eq, not_false_eq_true, pc, ls, bs, and_true, true_and, and_self, Nat.reduceAdd, Nat.le_refl, leafP, pi]
      refine CallT.mk (t := ⟨⟩) R ?_
      simp (maxSteps := 10000000) only [↓sx, sx, ↓ty, ↓reduceIte, Nat.reduceEqDiff, Nat.reduceBeqDiff, Nat.reduceAdd, Nat.reduceLeDiff, Nat.reduceLT, Nat.reduceMul, Nat.reduceSub, Int.reduceEq, Int.reduceBNe, Int.reduceBEq, ne_eq, not_false_eq_true, pc, ls, bs, and_true, true_and, and_self, Nat.reduceAdd, Nat.le_refl, leafP, pi]
    | false =>
      have h0 : x < 0 := Classical.not_not.1 fun h1 => hu ⟨h, h1⟩
      obtain ⟨g1, g2⟩ := inH_big h h0
      have L := aless_q x 0 (hx.mono (by omega)) (Sz0 _ (by omega))
      rw [decide_eq_true h0, c0.1] at L
      have S := asub_q 0 x (Sz0 _ (by omega)) (hx.mono (by omega))
      rw [c0.1] at S
      have U := aarc_up (0 - x) n (neg_sz2 hx) hn g1 g2
      have T := atimes_q (arcU (0 - x) n) (-1) ((arcU_sz (neg_sz2 hx) n hn).mono (by omega)) (cm1.2.mono (by omega))
      rw [cm1.1] at T
      rw [h] at W
      rw [if_neg (by simp), if_pos h0]
      generalize timQ (arcU (0 - x) n) (-1) = r at T ⊢
      generalize arcU (0 - x) n = s at U T
      rw [ivQ_pair] at U
      rw [ivQ_pair s, ivQ_pair r] at T
      rw [ivQ_pair]
      simp (maxSteps := 10000000) only [↓sx, sx, ↓ty, ↓reduceIte, Nat.reduceEqDiff, Nat.reduceBeqDiff, Nat.reduceAdd, Nat.reduceLeDiff, Nat.reduceLT, Nat.reduceMul, Nat.reduceSub, Int.reduceEq, Int.reduceBNe, Int.reduceBEq, ne_eq, not_false_eq_true, pc, ls, bs, and_true, true_and, and_self, Nat.reduceAdd, Nat.le_refl, leafP, pi]
      refine CallT.mk (t := ⟨⟩) W ?_
      simp (maxSteps := 10000000) only [↓sx, sx, ↓ty, ↓reduceIte, Nat.reduceEqDiff, Nat.reduceBeqDiff, Nat.reduceAdd, Nat.reduceLeDiff, Nat.reduceLT, Nat.reduceMul, Nat.reduceSub, Int.reduceEq, Int.reduceBNe, Int.reduceBEq, ne_eq, not_false_eq_true, pc, ls, bs, and_true, true_and, and_self, Nat.reduceAdd, Nat.le_refl, leafP, pi]
      refine CallT.mk (t := ⟨⟩) L ?_
      simp (maxSteps := 10000000) only [↓sx, sx, ↓ty, ↓reduceIte, Nat.reduceEqDiff, Nat.reduceBeqDiff, Nat.reduceAdd, Nat.reduceLeDiff, Nat.reduceLT, Nat.reduceMul, Nat.reduceSub, Int.reduceEq, Int.reduceBNe, Int.reduceBEq, ne_eq, not_false_eq_true, pc, ls, bs, and_true, true_and, and_self, Nat.reduceAdd, Nat.le_refl, leafP, pi]
      refine CallT.mk (t := ⟨⟩) S ?_
      simp (maxSteps := 10000000) only [↓sx, sx, ↓ty, ↓reduceIte, Nat.reduceEqDiff, Nat.reduceBeqDiff, Nat.reduceAdd, Nat.reduceLeDiff, Nat.reduceLT, Nat.reduceMul, Nat.reduceSub, Int.reduceEq, Int.reduceBNe, Int.reduceBEq, ne_eq, not_false_eq_true, pc, ls, bs, and_true, true_and, and_self, Nat.reduceAdd, Nat.le_refl, leafP, pi]
      refine CallT.mk (t := ⟨⟩) U ?_
      simp (maxSteps := 10000000) only [↓sx, sx, ↓ty, ↓reduceIte, Nat.reduceEqDiff, Nat.reduceBeqDiff, Nat.reduceAdd, Nat.reduceLeDiff, Nat.reduceLT, Nat.reduceMul, Nat.reduceSub, Int.reduceEq, Int.reduceBNe, Int.reduceBEq, ne_eq, not_false_eq_true, pc, ls, bs, and_true, true_and, and_self, Nat.reduceAdd, Nat.le_refl, leafP, pi]
      refine CallT.mk (t := ⟨⟩) T ?_
      simp (maxSteps := 10000000) only [↓sx, sx, ↓ty, ↓reduceIte, Nat.reduceEqDiff, Nat.reduceBeqDiff, Nat.reduceAdd, Nat.reduceLeDiff, Nat.reduceLT, Nat.reduceMul, Nat.reduceSub, Int.reduceEq, Int.reduceBNe, Int.reduceBEq, ne_eq, not_false_eq_true, pc, ls, bs, and_true, true_and, and_self, Nat.reduceAdd, Nat.le_refl, leafP, pi]
set_option maxRecDepth 100000 in
theorem adeg_q (x : Rat) (n : Nat) (hx : Sz 2 x) (h1 : 1 ≤ n) (hn : n ≤ 6) : Meets Tryz.prog Gd 47 [rtP x, iP (n : Int)] (ivQ (degQ x n)) := by
  refine meets_of_vc (Y := {}) (N := 18) (rs := [.cell 4 25]) mix tk gd Tryz.func47 rfl (by kernel_rfl) rfl rfl (by simp) (by kernel_rfl) ?_
  have A := aarc_q x n hx hn
  have T := atimes_q (arcQ x n) 360 ((arcQ_sz hx n hn).mono (by omega)) (c360.2.mono (by omega))
  rw [c360.1] at T
  have P := api_q n hn
  have D := aidiv_q (timQ (arcQ x n) 360) (piQ n) (timQ_le _ _) (piQ_le n) (by have := piQ_pos n h1 hn; grind) ((timQ_sz (arcQ_sz hx n hn) c360.2).mono (by omega)) ((piQ_sz n hn).mono (by omega))
  unfold degQ
  generalize overQ (timQ (arcQ x n) 360) (piQ n) = r at D ⊢
  generalize timQ (arcQ x n) 360 = u at T D
  generalize arcQ x n = a at A T
  generalize piQ n = p at P D
  rw [ivQ_pair] at A P
  rw [ivQ_pair a, ivQ_pair u] at T
  rw [ivQ_pair u, ivQ_pair p, ivQ_pair r] at D
  rw [ivQ_pair]
  simp (maxSteps := 10000000) only [↓sx, sx, ↓ty, ↓reduceIte, Nat.reduceEqDiff, Nat.reduceBeqDiff, Nat.reduceAdd, Nat.reduceLeDiff, Nat.reduceLT, Nat.reduceMul, Nat.reduceSub, Int.reduceEq, Int.reduceBNe, Int.reduceBEq, ne_eq, not_false_eq_true, pc, ls, bs, and_true, true_and, and_self, Nat.reduceAdd, Nat.le_refl, leafP, pi]
  refine CallT.mk (t := ⟨⟩) A ?_
  simp (maxSteps := 10000000) only [↓sx, sx, ↓ty, ↓reduceIte, Nat.reduceEqDiff, Nat.reduceBeqDiff, Nat.reduceAdd, Nat.reduceLeDiff, Nat.reduceLT, Nat.reduceMul, Nat.reduceSub, Int.reduceEq, Int.reduceBNe, Int.reduceBEq, ne_eq, not_false_eq_true, pc, ls, bs, and_true, true_and, and_self, Nat.reduceAdd, Nat.le_refl, leafP, pi]
  refine CallT.mk (t := ⟨⟩) T ?_
  simp (maxSteps := 10000000) only [↓sx, sx, ↓ty, ↓reduceIte, Nat.reduceEqDiff, Nat.reduceBeqDiff, Nat.reduceAdd, Nat.reduceLeDiff, Nat.reduceLT, Nat.reduceMul, Nat.reduceSub, Int.reduceEq, Int.reduceBNe, Int.reduceBEq, ne_eq, not_false_eq_true, pc, ls, bs, and_true, true_and, and_self, Nat.reduceAdd, Nat.le_refl, leafP, pi]
  refine CallT.mk (t := ⟨⟩) P ?_
  simp (maxSteps := 10000000) only [↓sx, sx, ↓ty, ↓reduceIte, Nat.reduceEqDiff, Nat.reduceBeqDiff, Nat.reduceAdd, Nat.reduceLeDiff, Nat.reduceLT, Nat.reduceMul, Nat.reduceSub, Int.reduceEq, Int.reduceBNe, Int.reduceBEq, ne_eq, not_false_eq_true, pc, ls, bs, and_true, true_and, and_self, Nat.reduceAdd, Nat.le_refl, leafP, pi]
  refine CallT.mk (t := ⟨⟩) D ?_
  simp (maxSteps := 10000000) only [↓sx, sx, ↓ty, ↓reduceIte, Nat.reduceEqDiff, Nat.reduceBeqDiff, Nat.reduceAdd, Nat.reduceLeDiff, Nat.reduceLT, Nat.reduceMul, Nat.reduceSub, Int.reduceEq, Int.reduceBNe, Int.reduceBEq, ne_eq, not_false_eq_true, pc, ls, bs, and_true, true_and, and_self, Nat.reduceAdd, Nat.le_refl, leafP, pi]
end Go.Proofs.YtolehnkoocnenaaGreatDoor.S
namespace Gb
open Go Go.RowKit Go.Sx
def apiP (n : Int) : PV := if cntE n = 0 then .tup [ivQ (piQ n.toNat), iP 0] else .tup [ivP [] [], iP (cntE n)]
def aarcP (x : List UInt8) (n : Int) : PV := if askE x n = 0 then .tup [ivQ (arcQ (ratOf x) n.toNat), iP 0] else .tup [ivP [] [], iP (askE x n)]
def adegP (x : List UInt8) (n : Int) : PV := if askE x n = 0 then .tup [ivQ (degQ (ratOf x) n.toNat), iP 0] else .tup [ivP [] [], iP (askE x n)]
theorem cntE_ok {n : Int} (h : cntE n = 0) : 1 ≤ n ∧ n ≤ 24 := by
  unfold cntE at h
  split at h <;> omega
theorem askE_ok {x : List UInt8} {n : Int} (h : askE x n = 0) : isRat x = true ∧ inU (ratOf x) = true ∧ 1 ≤ n ∧ n ≤ 24 := by
  unfold askE at h
  split at h
  · rename_i h1
    obtain ⟨h2, h3⟩ := achk_ok h1 x (by simp)
    exact ⟨h2, h3, cntE_ok h⟩
  · rename_i h1; exact absurd h h1
def stepF (d : Rat) (n : Nat) (o : Rat × Rat) : Option (Rat × Rat) :=
  if d < (degQ ((o.1 + o.2) * (1 / 2)) n).2 then (if d < (degQ ((o.1 + o.2) * (1 / 2)) n).1 then some (o.1, (o.1 + o.2) * (1 / 2)) else none) else some ((o.1 + o.2) * (1 / 2), o.2)
def findL (d : Rat) (n : Nat) : Nat → Rat × Rat → Rat × Rat
  | 0, o => o
  | k + 1, o => match stepF d n o with | some o' => findL d n k o' | none => o
def GridI (i : Nat) (o : Rat × Rat) : Prop := ∃ a : Int, -(2 ^ i : Int) ≤ a ∧ a + 2 ≤ 2 ^ i ∧ o.1 = (a : Rat) / ((2 ^ i : Int) : Rat) ∧ o.2 = ((a + 2 : Int) : Rat) / ((2 ^ i : Int) : Rat)
theorem grid0 : GridI 0 (-1, 1) := ⟨-1, by decide, by decide, by decide +kernel, by decide +kernel⟩
theorem pow_ne (i : Nat) : (((2 : Int) ^ i : Int) : Rat) ≠ 0 := by
  intro h
  have : ((2 : Int) ^ i) = 0 := Rat.intCast_inj.1 (h.trans (by simp))
  have h2 : (0 : Int) < 2 ^ i := Int.pow_pos (by omega)
  omega
theorem grid_mid {i : Nat} {o : Rat × Rat} {a : Int} (h1 : o.1 = (a : Rat) / ((2 ^ i : Int) : Rat)) (h2 : o.2 = ((a + 2 : Int) : Rat) / ((2 ^ i : Int) : Rat)) : (o.1 + o.2) * (1 / 2) = ((a + 1 : Int) : Rat) / ((2 ^ i : Int) : Rat) := by
  rw [h1, h2]
  have := pow_ne i
  generalize ((2 ^ i : Int) : Rat) = D at *
  have e1 : ((a + 2 : Int) : Rat) = (a : Rat) + 2 := by simp
  have e2 : ((a + 1 : Int) : Rat) = (a : Rat) + 1 := by simp
  rw [e1, e2]
  grind
theorem grid_dbl (a : Int) (i : Nat) : (a : Rat) / ((2 ^ i : Int) : Rat) = ((2 * a : Int) : Rat) / ((2 ^ (i + 1) : Int) : Rat) := by
  have h1 := pow_ne i
  have e : (((2 : Int) ^ (i + 1) : Int) : Rat) = 2 * ((2 ^ i : Int) : Rat) := by rw [Int.pow_succ, Int.mul_comm, Rat.intCast_mul]; rfl
  have e2 : ((2 * a : Int) : Rat) = 2 * (a : Rat) := by rw [Rat.intCast_mul]; rfl
  rw [e, e2]
  generalize ((2 ^ i : Int) : Rat) = D at *
  grind
theorem grid_hi {i : Nat} {o : Rat × Rat} (h : GridI i o) : GridI (i + 1) ((o.1 + o.2) * (1 / 2), o.2) := by
  obtain ⟨a, h1, h2, h3, h4⟩ := h
  refine ⟨2 * (a + 1), by rw [Int.pow_succ]; omega, by rw [Int.pow_succ]; omega, ?_, ?_⟩
  · dsimp only; rw [grid_mid h3 h4, grid_dbl]
  · dsimp only; rw [h4, grid_dbl]
    congr 2
    omega
theorem grid_lo {i : Nat} {o : Rat × Rat} (h : GridI i o) : GridI (i + 1) (o.1, (o.1 + o.2) * (1 / 2)) := by
  obtain ⟨a, h1, h2, h3, h4⟩ := h
  refine ⟨2 * a, by rw [Int.pow_succ]; omega, by rw [Int.pow_succ]; omega, ?_, ?_⟩
  · dsimp only; rw [h3, grid_dbl]
  · dsimp only; rw [grid_mid h3 h4, grid_dbl]
    congr 2
    omega
theorem grid_sz1 {i : Nat} {a : Int} (hi : i ≤ 24) (h1 : -(2 ^ i : Int) ≤ a) (h2 : a ≤ 2 ^ i) : Sz 2 ((a : Rat) / ((2 ^ i : Int) : Rat)) := by
  have h3 : ((2 : Int) ^ i) ≤ 2 ^ 24 := by have := Nat.pow_le_pow_right (n := 2) (by omega) hi; exact_mod_cast this
  have h4 : (0 : Int) < 2 ^ i := Int.pow_pos (by omega)
  exact Sz.divT (k := 1) (m := 1) (Sz.int (Nat.le_trans (Lw_le (k := 1) (by omega)) (by omega)) (by omega)) (Sz.int (Nat.le_trans (Lw_le (k := 1) (by omega)) (by omega)) (by omega)) (by omega)
theorem grid_sz {i : Nat} {o : Rat × Rat} (hi : i ≤ 24) (h : GridI i o) : SzI 2 o ∧ Sz 2 ((o.1 + o.2) * (1 / 2)) := by
  obtain ⟨a, h1, h2, h3, h4⟩ := h
  refine ⟨⟨?_, ?_⟩, ?_⟩
  · rw [h3]; exact grid_sz1 hi h1 (by omega)
  · rw [h4]; exact grid_sz1 hi (by omega) h2
  · rw [grid_mid h3 h4]; exact grid_sz1 hi (by omega) (by omega)
def in90 (x : Rat) : Bool := !decide (90 < x) && !decide (x < 0 - 90)
def finE (d : List UInt8) (n k : Int) : Int := if isRat d then (if cntE n = 0 ∧ in90 (ratOf d) = true ∧ 0 ≤ k ∧ k ≤ 24 then 0 else 2) else 1
def afindP (d : List UInt8) (n k : Int) : PV := if finE d n k = 0 then .tup [ivQ (findL (ratOf d) n.toNat k.toNat (-1, 1)), iP 0] else .tup [ivP [] [], iP (finE d n k)]
end Gb
namespace Go.Proofs.YtolehnkoocnenaaGreatDoor.S
open Go Go.Sx Go.RowKit Gb Go.Shelf
set_option maxRecDepth 100000 in
theorem api_n (n : Int) (hn : n ≤ 6 ∨ 24 < n) : Meets Tryz.prog Gd 12 [iP n] (apiP n) := by
  refine meets_of_vc (Y := {}) (N := 13) (rs := [.cell 2 25, .tmp 3]) mix tk gd Tryz.func12 rfl (by kernel_rfl) rfl rfl (by simp) (by kernel_rfl) ?_
  unfold apiP
  simp (maxSteps := 10000000) only [↓sx, sx, ↓ty, ↓reduceIte, Nat.reduceEqDiff, Nat.reduceBeqDiff, Nat.reduceAdd, Nat.reduceLeDiff, Nat.reduceLT, Nat.reduceMul, Nat.reduceSub, Int.reduceEq, Int.reduceBNe, Int.reduceBEq, ne_eq, not_false_eq_true, pc, ls, bs, and_true, true_and, and_self, Nat.reduceAdd, Nat.le_refl, leafP, pi]
  refine CallT.mk (t := ⟨⟩) (acount_n n) ?_
  by_cases h : cntE n = 0
  · obtain ⟨h1, h2⟩ := cntE_ok h
    obtain ⟨m, rfl⟩ : ∃ m : Nat, n = (m : Int) := ⟨n.toNat, by omega⟩
    have P := api_q m (by omega)
    rw [if_pos h, h, Int.toNat_natCast]
    generalize piQ m = r at P ⊢
    rw [ivQ_pair] at P ⊢
    simp (maxSteps := 10000000) only [↓sx, sx, ↓ty, ↓reduceIte, Nat.reduceEqDiff, Nat.reduceBeqDiff, Nat.reduceAdd, Nat.reduceLeDiff, Nat.reduceLT, Nat.reduceMul, Nat.reduceSub, Int.reduceEq, Int.reduceBNe, Int.reduceBEq, ne_eq, not_false_eq_true, pc, ls, bs, and_true, true_and, and_self, Nat.reduceAdd, Nat.le_refl, leafP, pi]
    refine CallT.mk (t := ⟨⟩) P ?_
    simp (maxSteps := 10000000) only [↓sx, sx, ↓ty, ↓reduceIte, Nat.reduceEqDiff, Nat.reduceBeqDiff, Nat.reduceAdd, Nat.reduceLeDiff, Nat.reduceLT, Nat.reduceMul, Nat.reduceSub, Int.reduceEq, Int.reduceBNe, Int.reduceBEq, ne_eq, not_false_eq_true, pc, ls, bs, and_true, true_and, and_self, Nat.reduceAdd, Nat.le_refl, leafP, pi]
  · have d0 : (cntE n != 0) = true := by simp [h]
    rw [if_neg h]
    simp (maxSteps := 10000000) only [↓sx, sx, ↓ty, ↓reduceIte, Nat.reduceEqDiff, Nat.reduceBeqDiff, Nat.reduceAdd, Nat.reduceLeDiff, Nat.reduceLT, Nat.reduceMul, Nat.reduceSub, Int.reduceEq, Int.reduceBNe, Int.reduceBEq, ne_eq, not_false_eq_true, pc, ls, bs, and_true, true_and, and_self, Nat.reduceAdd, Nat.le_refl, leafP, pi, d0]
set_option maxRecDepth 100000 in
theorem aarc_n (x : List UInt8) (n : Int) (hx : x.length ≤ 9) (hn : n ≤ 6 ∨ 24 < n) : Meets Tryz.prog Gd 14 [strP x, iP n] (aarcP x n) := by
  refine meets_of_vc (Y := {}) (N := 17) (rs := [.cell 4 25, .tmp 5]) mix tk gd Tryz.func14 rfl (by kernel_rfl) rfl rfl (by simp) (by kernel_rfl) ?_
  unfold aarcP
  simp (maxSteps := 10000000) only [↓sx, sx, ↓ty, ↓reduceIte, Nat.reduceEqDiff, Nat.reduceBeqDiff, Nat.reduceAdd, Nat.reduceLeDiff, Nat.reduceLT, Nat.reduceMul, Nat.reduceSub, Int.reduceEq, Int.reduceBNe, Int.reduceBEq, ne_eq, not_false_eq_true, pc, ls, bs, and_true, true_and, and_self, Nat.reduceAdd, Nat.le_refl, leafP, pi]
  refine CallT.mk (t := ⟨⟩) (aask_n x n (by omega)) ?_
  by_cases h : askE x n = 0
  · obtain ⟨h0, hu, h1, h2⟩ := askE_ok h
    obtain ⟨m, rfl⟩ : ∃ m : Nat, n = (m : Int) := ⟨n.toNat, by omega⟩
    have P := aarc_q (ratOf x) m (Sz.of h0 (k := 1) (by omega)) (by omega)
    rw [if_pos h, h, Int.toNat_natCast]
    rw [rtP_of h0] at P
    generalize arcQ (ratOf x) m = r at P ⊢
    rw [ivQ_pair] at P ⊢
    simp (maxSteps := 10000000) only [↓sx, sx, ↓ty, ↓reduceIte, Nat.reduceEqDiff, Nat.reduceBeqDiff, Nat.reduceAdd, Nat.reduceLeDiff, Nat.reduceLT, Nat.reduceMul, Nat.reduceSub, Int.reduceEq, Int.reduceBNe, Int.reduceBEq, ne_eq, not_false_eq_true, pc, ls, bs, and_true, true_and, and_self, Nat.reduceAdd, Nat.le_refl, leafP, pi]
    refine CallT.mk (t := ⟨⟩) P ?_
    simp (maxSteps := 10000000) only [↓sx, sx, ↓ty, ↓reduceIte, Nat.reduceEqDiff, Nat.reduceBeqDiff, Nat.reduceAdd, Nat.reduceLeDiff, Nat.reduceLT, Nat.reduceMul, Nat.reduceSub, Int.reduceEq, Int.reduceBNe, Int.reduceBEq, ne_eq, not_false_eq_true, pc, ls, bs, and_true, true_and, and_self, Nat.reduceAdd, Nat.le_refl, leafP, pi]
  · have d0 : (askE x n != 0) = true := by simp [h]
    rw [if_neg h]
    simp (maxSteps := 10000000) only [↓sx, sx, ↓ty, ↓reduceIte, Nat.reduceEqDiff, Nat.reduceBeqDiff, Nat.reduceAdd, Nat.reduceLeDiff, Nat.reduceLT, Nat.reduceMul, Nat.reduceSub, Int.reduceEq, Int.reduceBNe, Int.reduceBEq, ne_eq, not_false_eq_true, pc, ls, bs, and_true, true_and, and_self, Nat.reduceAdd, Nat.le_refl, leafP, pi, d0]
set_option maxRecDepth 100000 in
theorem adeg_n (x : List UInt8) (n : Int) (hx : x.length ≤ 9) (hn : n ≤ 6 ∨ 24 < n) : Meets Tryz.prog Gd 16 [strP x, iP n] (adegP x n) := by
  refine meets_of_vc (Y := {}) (N := 17) (rs := [.cell 4 25, .tmp 5]) mix tk gd Tryz.func16 rfl (by kernel_rfl) rfl rfl (by simp) (by kernel_rfl) ?_
  unfold adegP
  simp (maxSteps := 10000000) only [↓sx, sx, ↓ty, ↓reduceIte, Nat.reduceEqDiff, Nat.reduceBeqDiff, Nat.reduceAdd, Nat.reduceLeDiff, Nat.reduceLT, Nat.reduceMul, Nat.reduceSub, Int.reduceEq, Int.reduceBNe, Int.reduceBEq, ne_eq, not_false_eq_true, pc, ls, bs, and_true, true_and, and_self, Nat.reduceAdd, Nat.le_refl, leafP, pi]
  refine CallT.mk (t := ⟨⟩) (aask_n x n (by omega)) ?_
  by_cases h : askE x n = 0
  · obtain ⟨h0, hu, h1, h2⟩ := askE_ok h
    obtain ⟨m, rfl⟩ : ∃ m : Nat, n = (m : Int) := ⟨n.toNat, by omega⟩
    have P := adeg_q (ratOf x) m (Sz.of h0 (k := 1) (by omega)) (by omega) (by omega)
    rw [if_pos h, h, Int.toNat_natCast]
    rw [rtP_of h0] at P
    generalize degQ (ratOf x) m = r at P ⊢
    rw [ivQ_pair] at P ⊢
    simp (maxSteps := 10000000) only [↓sx, sx, ↓ty, ↓reduceIte, Nat.reduceEqDiff, Nat.reduceBeqDiff, Nat.reduceAdd, Nat.reduceLeDiff, Nat.reduceLT, Nat.reduceMul, Nat.reduceSub, Int.reduceEq, Int.reduceBNe, Int.reduceBEq, ne_eq, not_false_eq_true, pc, ls, bs, and_true, true_and, and_self, Nat.reduceAdd, Nat.le_refl, leafP, pi]
    refine CallT.mk (t := ⟨⟩) P ?_
    simp (maxSteps := 10000000) only [↓sx, sx, ↓ty, ↓reduceIte, Nat.reduceEqDiff, Nat.reduceBeqDiff, Nat.reduceAdd, Nat.reduceLeDiff, Nat.reduceLT, Nat.reduceMul, Nat.reduceSub, Int.reduceEq, Int.reduceBNe, Int.reduceBEq, ne_eq, not_false_eq_true, pc, ls, bs, and_true, true_and, and_self, Nat.reduceAdd, Nat.le_refl, leafP, pi]
  · have d0 : (askE x n != 0) = true := by simp [h]
    rw [if_neg h]
    simp (maxSteps := 10000000) only [↓sx, sx, ↓ty, ↓reduceIte, Nat.reduceEqDiff, Nat.reduceBeqDiff, Nat.reduceAdd, Nat.reduceLeDiff, Nat.reduceLT, Nat.reduceMul, Nat.reduceSub, Int.reduceEq, Int.reduceBNe, Int.reduceBEq, ne_eq, not_false_eq_true, pc, ls, bs, and_true, true_and, and_self, Nat.reduceAdd, Nat.le_refl, leafP, pi, d0]
set_option maxRecDepth 100000 in
set_option maxHeartbeats 8000000 in
theorem afind_n (d : List UInt8) (n k : Int) (hd : d.length ≤ 9) (hn : n ≤ 6 ∨ 24 < n) : Meets Tryz.prog Gd 18 [strP d, iP n, iP k] (afindP d n k) := by
  refine meets_of_vc (Y := {}) (N := 65) (rs := [.cell 6 25, .tmp 7]) mix tk gd Tryz.func18 rfl (by kernel_rfl) rfl rfl (by simp) (by kernel_rfl) ?_
  unfold afindP
  simp (maxSteps := 10000000) only [↓sx, sx, ↓ty, ↓reduceIte, Nat.reduceEqDiff, Nat.reduceBeqDiff, Nat.reduceAdd, Nat.reduceLeDiff, Nat.reduceLT, Nat.reduceMul, Nat.reduceSub, Int.reduceEq, Int.reduceBNe, Int.reduceBEq, ne_eq, not_false_eq_true, pc, ls, bs, and_true, true_and, and_self, Nat.reduceAdd, Nat.le_refl, leafP, pi]
  refine CallT.mk (t := ⟨⟩) (rvalid_n d (by omega)) ?_
  cases hr : isRat d with
  | false =>
    have hf : finE d n k = 1 := by unfold finE; rw [hr]; rfl
    rw [hf, if_neg (by omega)]
    simp (maxSteps := 10000000) only [↓sx, sx, ↓ty, ↓reduceIte, Nat.reduceEqDiff, Nat.reduceBeqDiff, Nat.reduceAdd, Nat.reduceLeDiff, Nat.reduceLT, Nat.reduceMul, Nat.reduceSub, Int.reduceEq, Int.reduceBNe, Int.reduceBEq, ne_eq, not_false_eq_true, pc, ls, bs, and_true, true_and, and_self, Nat.reduceAdd, Nat.le_refl, leafP, pi]
  | true =>
    have zd : Sz 2 (ratOf d) := Sz.of hr (k := 1) (by omega)
    have hf2 : ¬ (cntE n = 0 ∧ in90 (ratOf d) = true ∧ 0 ≤ k ∧ k ≤ 24) → finE d n k = 2 := fun h => by unfold finE; rw [hr, if_pos rfl, if_neg h]
    simp (maxSteps := 10000000) only [↓sx, sx, ↓ty, ↓reduceIte, Nat.reduceEqDiff, Nat.reduceBeqDiff, Nat.reduceAdd, Nat.reduceLeDiff, Nat.reduceLT, Nat.reduceMul, Nat.reduceSub, Int.reduceEq, Int.reduceBNe, Int.reduceBEq, ne_eq, not_false_eq_true, pc, ls, bs, and_true, true_and, and_self, Nat.reduceAdd, Nat.le_refl, leafP, pi]
    refine CallT.mk (t := ⟨⟩) (acount_n n) ?_
    by_cases hc : cntE n = 0
    · obtain ⟨h1, h2⟩ := cntE_ok hc
      obtain ⟨m, rfl⟩ : ∃ m : Nat, n = (m : Int) := ⟨n.toNat, by omega⟩
      have W := awithin_q (ratOf d) 90 (zd.mono (by omega)) (c90.2.mono (by omega))
      rw [c90.1, rtP_of hr, show (!decide (90 < ratOf d) && !decide (ratOf d < 0 - 90)) = in90 (ratOf d) from rfl] at W
      rw [hc]
      simp (maxSteps := 10000000) only [↓sx, sx, ↓ty, ↓reduceIte, Nat.reduceEqDiff, Nat.reduceBeqDiff, Nat.reduceAdd, Nat.reduceLeDiff, Nat.reduceLT, Nat.reduceMul, Nat.reduceSub, Int.reduceEq, Int.reduceBNe, Int.reduceBEq, ne_eq, not_false_eq_true, pc, ls, bs, and_true, true_and, and_self, Nat.reduceAdd, Nat.le_refl, leafP, pi]
      refine CallT.mk (t := ⟨⟩) W ?_
      cases hw : in90 (ratOf d) with
      | false =>
        rw [hf2 (by simp [hw]), if_neg (by omega)]
        simp (maxSteps := 10000000) only [↓sx, sx, ↓ty, ↓reduceIte, Nat.reduceEqDiff, Nat.reduceBeqDiff, Nat.reduceAdd, Nat.reduceLeDiff, Nat.reduceLT, Nat.reduceMul, Nat.reduceSub, Int.reduceEq, Int.reduceBNe, Int.reduceBEq, ne_eq, not_false_eq_true, pc, ls, bs, and_true, true_and, and_self, Nat.reduceAdd, Nat.le_refl, leafP, pi]
      | true =>
        by_cases hk0 : k < 0
        · have e0 : decide (k < 0) = true := decide_eq_true hk0
          rw [hf2 (by omega), if_neg (by omega)]
          simp (maxSteps := 10000000) only [↓sx, sx, ↓ty, ↓reduceIte, Nat.reduceEqDiff, Nat.reduceBeqDiff, Nat.reduceAdd, Nat.reduceLeDiff, Nat.reduceLT, Nat.reduceMul, Nat.reduceSub, Int.reduceEq, Int.reduceBNe, Int.reduceBEq, ne_eq, not_false_eq_true, pc, ls, bs, and_true, true_and, and_self, Nat.reduceAdd, Nat.le_refl, leafP, pi, e0]
        · have e0 : decide (k < 0) = false := decide_eq_false hk0
          by_cases hk1 : 24 < k
          · have e1 : decide (24 < k) = true := decide_eq_true hk1
            rw [hf2 (by omega), if_neg (by omega)]
            simp (maxSteps := 10000000) only [↓sx, sx, ↓ty, ↓reduceIte, Nat.reduceEqDiff, Nat.reduceBeqDiff, Nat.reduceAdd, Nat.reduceLeDiff, Nat.reduceLT, Nat.reduceMul, Nat.reduceSub, Int.reduceEq, Int.reduceBNe, Int.reduceBEq, ne_eq, not_false_eq_true, pc, ls, bs, and_true, true_and, and_self, Nat.reduceAdd, Nat.le_refl, leafP, pi, e0, e1]
          · have e1 : decide (24 < k) = false := decide_eq_false hk1
            have hf : finE d (m : Int) k = 0 := by unfold finE; rw [hr, if_pos rfl, if_pos ⟨hc, hw, by omega, by omega⟩]
            rw [hf, if_pos rfl]
            obtain ⟨K, rfl⟩ : ∃ K : Nat, k = (K : Int) := ⟨k.toNat, by omega⟩
            rw [Int.toNat_natCast, Int.toNat_natCast]
            have e90 : ivQ (findL (ratOf d) m K (-1, 1)) = ivP (rT (findL (ratOf d) m K (-1, 1)).1) (rT (findL (ratOf d) m K (-1, 1)).2) := rfl
            rw [e90]
            obtain ⟨x, hx⟩ : ∃ x, x = ratOf d := ⟨_, rfl⟩
            have hdx : d = rT x := by rw [hx, rT_ratOf hr]
            rw [← hx] at zd ⊢
            rw [hdx]
            clear e90 hf hf2 hw W hr hd hx
            simp (maxSteps := 10000000) only [↓sx, sx, ↓ty, ↓reduceIte, Nat.reduceEqDiff, Nat.reduceBeqDiff, Nat.reduceAdd, Nat.reduceLeDiff, Nat.reduceLT, Nat.reduceMul, Nat.reduceSub, Int.reduceEq, Int.reduceBNe, Int.reduceBEq, ne_eq, not_false_eq_true, pc, ls, bs, and_true, true_and, and_self, Nat.reduceAdd, Nat.le_refl, leafP, pi, e0, e1]
            refine loopK_of (fun s : Nat × (Rat × Rat) => [(0, .p (rtP x)), (1, .p (iP m)), (6, .box 6 0), (7, .p (iP 0)), (8, .box 8 0), (35, .p (.val (.int .i64 (K : Nat)))), (36, .p (.val (.int .i64 (s.1 : Nat))))]) (fun s => [(6, (25, [strP [], strP []])), (8, (25, [rtP s.2.1, rtP s.2.2]))]) (fun _ => []) (fun s => s.1 ≤ K ∧ GridI s.1 s.2 ∧ findL x m (K - s.1) s.2 = findL x m K (-1, 1)) (fun s => K - s.1) (0, (-1, 1)) ⟨Nat.zero_le _, grid0, rfl⟩ ?_ ?_
            · simp (maxSteps := 10000000) only [isE_nil, is_cons, bo_p, bo_box, bo_orow, bo_rowp, any_cons', all_cons', all_nil', Bool.true_or, Bool.or_true, ↓sx, sx, ↓reduceIte, Nat.reduceEqDiff, Nat.reduceBeqDiff, cm1.1, c1.1]
              exact ⟨rfl, rfl, rfl, rfl, rfl⟩
            · rintro ⟨i, o⟩ ⟨hi, hg, hv⟩
              dsimp only at hi hg hv ⊢
              by_cases hil : i < K
              · have e2 : decide ((i : Int) < (K : Int)) = true := decide_eq_true (by omega)
                obtain ⟨⟨so1, so2⟩, sm⟩ := grid_sz (by omega) hg
                have A := aadd_q o.1 o.2 (so1.mono (by omega)) (so2.mono (by omega))
                have M := amul_q (o.1 + o.2) (1 / 2) ((so1.add so2).mono (by omega)) (c12.2.mono (by omega))
                rw [c12.1] at M
                have D := adeg_q ((o.1 + o.2) * (1 / 2)) m sm (by omega) (by omega)
                have zq := degQ_sz sm m (by omega)
                have hst : findL x m (K - i) o = match stepF x m o with | some o' => findL x m (K - (i + 1)) o' | none => o := by rw [show K - i = (K - (i + 1)) + 1 by omega]; rfl
                have ghi := grid_hi hg
                have glo := grid_lo hg
                unfold stepF at hst
                generalize (o.1 + o.2) * (1 / 2) = mid at *
                generalize degQ mid m = q at *
                rw [ivQ_pair] at D
                have L1 := aless_q x q.2 (zd.mono (by omega)) (zq.2.mono (by omega))
                have L2 := aless_q x q.1 (zd.mono (by omega)) (zq.1.mono (by omega))
                simp (maxSteps := 10000000) only [↓sx, sx, ↓ty, ↓reduceIte, Nat.reduceEqDiff, Nat.reduceBeqDiff, Nat.reduceAdd, Nat.reduceLeDiff, Nat.reduceLT, Nat.reduceMul, Nat.reduceSub, Int.reduceEq, Int.reduceBNe, Int.reduceBEq, ne_eq, not_false_eq_true, pc, ls, bs, and_true, true_and, and_self, Nat.reduceAdd, Nat.le_refl, leafP, pi, e2]
                refine CallT.mk (t := ⟨⟩) A ?_
                simp (maxSteps := 10000000) only [↓sx, sx, ↓ty, ↓reduceIte, Nat.reduceEqDiff, Nat.reduceBeqDiff, Nat.reduceAdd, Nat.reduceLeDiff, Nat.reduceLT, Nat.reduceMul, Nat.reduceSub, Int.reduceEq, Int.reduceBNe, Int.reduceBEq, ne_eq, not_false_eq_true, pc, ls, bs, and_true, true_and, and_self, Nat.reduceAdd, Nat.le_refl, leafP, pi]
                refine CallT.mk (t := ⟨⟩) M ?_
                simp (maxSteps := 10000000) only [↓sx, sx, ↓ty, ↓reduceIte, Nat.reduceEqDiff, Nat.reduceBeqDiff, Nat.reduceAdd, Nat.reduceLeDiff, Nat.reduceLT, Nat.reduceMul, Nat.reduceSub, Int.reduceEq, Int.reduceBNe, Int.reduceBEq, ne_eq, not_false_eq_true, pc, ls, bs, and_true, true_and, and_self, Nat.reduceAdd, Nat.le_refl, leafP, pi]
                refine CallT.mk (t := ⟨⟩) D ?_
                simp (maxSteps := 10000000) only [↓sx, sx, ↓ty, ↓reduceIte, Nat.reduceEqDiff, Nat.reduceBeqDiff, Nat.reduceAdd, Nat.reduceLeDiff, Nat.reduceLT, Nat.reduceMul, Nat.reduceSub, Int.reduceEq, Int.reduceBNe, Int.reduceBEq, ne_eq, not_false_eq_true, pc, ls, bs, and_true, true_and, and_self, Nat.reduceAdd, Nat.le_refl, leafP, pi]
                refine CallT.mk (t := ⟨⟩) L1 ?_
                by_cases hq : x < q.2
                · rw [if_pos hq] at hst
                  rw [decide_eq_true hq]
                  simp (maxSteps := 10000000) only [↓sx, sx, ↓ty, ↓reduceIte, Nat.reduceEqDiff, Nat.reduceBeqDiff, Nat.reduceAdd, Nat.reduceLeDiff, Nat.reduceLT, Nat.reduceMul, Nat.reduceSub, Int.reduceEq, Int.reduceBNe, Int.reduceBEq, ne_eq, not_false_eq_true, pc, ls, bs, and_true, true_and, and_self, Nat.reduceAdd, Nat.le_refl, leafP, pi]
                  refine CallT.mk (t := ⟨⟩) L2 ?_
                  by_cases hq1 : x < q.1
                  · rw [if_pos hq1] at hst
                    rw [decide_eq_true hq1]
                    simp (maxSteps := 10000000) only [↓sx, sx, ↓ty, ↓reduceIte, Nat.reduceEqDiff, Nat.reduceBeqDiff, Nat.reduceAdd, Nat.reduceLeDiff, Nat.reduceLT, Nat.reduceMul, Nat.reduceSub, Int.reduceEq, Int.reduceBNe, Int.reduceBEq, ne_eq, not_false_eq_true, pc, ls, bs, and_true, true_and, and_self, Nat.reduceAdd, Nat.le_refl, leafP, pi]
                    refine NextK.mk (i + 1, (o.1, mid)) (by dsimp only; omega) ⟨by dsimp only; omega, glo, by rw [← hv, hst]⟩ ?_
                    simp (maxSteps := 10000000) only [isE_nil, is_cons, bo_p, bo_box, bo_orow, bo_rowp, any_cons', all_cons', all_nil', Bool.true_or, Bool.or_true, ↓sx, sx, ↓reduceIte, Nat.reduceEqDiff, Nat.reduceBeqDiff, pi]
                    rw [i64_id (by omega) (by omega)]
                    exact ⟨rfl, rfl, rfl, rfl⟩
                  · rw [if_neg hq1] at hst
                    rw [decide_eq_false hq1]
                    rw [← hv, hst]
                    simp (maxSteps := 10000000) only [↓sx, sx, ↓ty, ↓reduceIte, Nat.reduceEqDiff, Nat.reduceBeqDiff, Nat.reduceAdd, Nat.reduceLeDiff, Nat.reduceLT, Nat.reduceMul, Nat.reduceSub, Int.reduceEq, Int.reduceBNe, Int.reduceBEq, ne_eq, not_false_eq_true, pc, ls, bs, and_true, true_and, and_self, Nat.reduceAdd, Nat.le_refl, leafP, pi]
                · rw [if_neg hq] at hst
                  rw [decide_eq_false hq]
                  simp (maxSteps := 10000000) only [↓sx, sx, ↓ty, ↓reduceIte, Nat.reduceEqDiff, Nat.reduceBeqDiff, Nat.reduceAdd, Nat.reduceLeDiff, Nat.reduceLT, Nat.reduceMul, Nat.reduceSub, Int.reduceEq, Int.reduceBNe, Int.reduceBEq, ne_eq, not_false_eq_true, pc, ls, bs, and_true, true_and, and_self, Nat.reduceAdd, Nat.le_refl, leafP, pi]
                  refine NextK.mk (i + 1, (mid, o.2)) (by dsimp only; omega) ⟨by dsimp only; omega, ghi, by rw [← hv, hst]⟩ ?_
                  simp (maxSteps := 10000000) only [isE_nil, is_cons, bo_p, bo_box, bo_orow, bo_rowp, any_cons', all_cons', all_nil', Bool.true_or, Bool.or_true, ↓sx, sx, ↓reduceIte, Nat.reduceEqDiff, Nat.reduceBeqDiff, pi]
                  rw [i64_id (by omega) (by omega)]
                  exact ⟨rfl, rfl, rfl, rfl⟩
              · obtain rfl : i = K := by omega
                have e2 : decide ((i : Int) < (i : Int)) = false := decide_eq_false (by omega)
                rw [Nat.sub_self] at hv
                rw [← hv]
                simp (maxSteps := 10000000) only [↓sx, sx, ↓ty, ↓reduceIte, Nat.reduceEqDiff, Nat.reduceBeqDiff, Nat.reduceAdd, Nat.reduceLeDiff, Nat.reduceLT, Nat.reduceMul, Nat.reduceSub, Int.reduceEq, Int.reduceBNe, Int.reduceBEq, ne_eq, not_false_eq_true, pc, ls, bs, and_true, true_and, and_self, Nat.reduceAdd, Nat.le_refl, leafP, pi, e2]
                rfl
    · have d0 : (cntE n != 0) = true := by simp [hc]
      rw [hf2 (by simp [hc]), if_neg (by omega)]
      simp (maxSteps := 10000000) only [↓sx, sx, ↓ty, ↓reduceIte, Nat.reduceEqDiff, Nat.reduceBeqDiff, Nat.reduceAdd, Nat.reduceLeDiff, Nat.reduceLT, Nat.reduceMul, Nat.reduceSub, Int.reduceEq, Int.reduceBNe, Int.reduceBEq, ne_eq, not_false_eq_true, pc, ls, bs, and_true, true_and, and_self, Nat.reduceAdd, Nat.le_refl, leafP, pi, d0]
end Go.Proofs.YtolehnkoocnenaaGreatDoor.S
namespace Gb
open Go Go.RowKit Go.Sx
theorem sub_le_sign (x y : Rat) : (x - y).num.sign ≤ 0 ↔ x ≤ y := by rw [sign_le0]; grind
theorem sub_ge_sign (x y : Rat) : 0 ≤ (x - y).num.sign ↔ y ≤ x := by rw [sign_ge0]; grind
theorem betw_dec (x a b : Rat) : (decide (0 ≤ (x - a).num.sign) && decide ((x - b).num.sign ≤ 0)) = (!decide (b < x) && !decide (x < a)) := by
  have h1 : decide (0 ≤ (x - a).num.sign) = !decide (x < a) := by
    by_cases h : x < a
    · rw [decide_eq_true h, decide_eq_false (by rw [sub_ge_sign]; grind)]; rfl
    · rw [decide_eq_false h, decide_eq_true (by rw [sub_ge_sign]; grind)]; rfl
  have h2 : decide ((x - b).num.sign ≤ 0) = !decide (b < x) := by
    by_cases h : b < x
    · rw [decide_eq_true h, decide_eq_false (by rw [sub_le_sign]; grind)]; rfl
    · rw [decide_eq_false h, decide_eq_true (by rw [sub_le_sign]; grind)]; rfl
  rw [h1, h2, Bool.and_comm]
theorem betw_inU (x : Rat) : (decide (0 ≤ (x - ((-1 : Int) : Rat)).num.sign) && decide ((x - ((1 : Int) : Rat)).num.sign ≤ 0)) = inU x := by
  rw [betw_dec, show ((-1 : Int) : Rat) = 0 - 1 by decide +kernel, show ((1 : Int) : Rat) = 1 from rfl]; rfl
theorem betw_in90 (x : Rat) : (decide (0 ≤ (x - ((-90 : Int) : Rat)).num.sign) && decide ((x - ((90 : Int) : Rat)).num.sign ≤ 0)) = in90 x := by
  rw [betw_dec, show ((-90 : Int) : Rat) = 0 - 90 by decide +kernel, show ((90 : Int) : Rat) = 90 by decide +kernel]; rfl
theorem cnt_dec (n : Int) : (decide (1 ≤ n) && decide (n ≤ 24)) = (cntE n == 0) := by
  unfold cntE
  by_cases h : n < 1 ∨ 24 < n
  · rw [if_pos h]
    rcases h with h | h
    · rw [decide_eq_false (by omega)]; rfl
    · rw [decide_eq_false (p := n ≤ 24) (by omega), Bool.and_false]; rfl
  · rw [if_neg h, decide_eq_true (by omega), decide_eq_true (by omega)]; rfl
end Gb
namespace Go.Proofs.YtolehnkoocnenaaGreatDoor.S
open Go Go.Sx Go.RowKit Gb Go.Shelf
theorem betu_n (x : Rat) (hx : Sz 10000 x) : Meets Tryz.prog Gd 55 [qP x, iP (-1), iP 1] (.val (.bool (inU x))) := by
  have := betw6_n x (-1) 1 hx (by omega) (by omega) (by omega) (by omega)
  rwa [betw_inU] at this
theorem bet90_n (x : Rat) (hx : Sz 10000 x) : Meets Tryz.prog Gd 55 [qP x, iP (-90), iP 90] (.val (.bool (in90 x))) := by
  have := betw6_n x (-90) 90 hx (by omega) (by omega) (by omega) (by omega)
  rwa [betw_in90] at this
theorem cnt6_n (n : Int) : Meets Tryz.prog Gd 40 [iP n] (.val (.bool (cntE n == 0))) := by
  have := terms6_n n
  rwa [cnt_dec] at this
set_option maxRecDepth 100000 in
theorem read6_n (l : List UInt8) (hl : l.length < 9000) : Meets Tryz.prog Gd 45 [strP l] (.tup [qP (rd l), iP (achk [l])]) := by
  refine meets_of_vc (Y := {}) (N := 19) (rs := [.cell 2 60, .tmp 3]) mix tk gd Tryz.func45 rfl (by kernel_rfl) rfl rfl (by simp) (by kernel_rfl) ?_
  have F := from3_n gd l (by omega)
  rw [show (if isRat l = true then ratOf l else 0) = rd l from rfl] at F
  have B := betu_n (rd l) ((rd_sz (k := 1000) (by omega)).mono (by omega))
  simp (maxSteps := 10000000) only [↓sx, sx, ↓ty, ↓reduceIte, Nat.reduceEqDiff, Nat.reduceBeqDiff, Nat.reduceAdd, Nat.reduceLeDiff, Nat.reduceLT, Nat.reduceMul, Nat.reduceSub, Int.reduceEq, Int.reduceBNe, Int.reduceBEq, ne_eq, not_false_eq_true, pc, ls, bs, and_true, true_and, and_self, Nat.reduceAdd, Nat.le_refl, leafP, pi]
  refine CallT.mk (t := ⟨⟩) F ?_
  cases hr : isRat l with
  | false =>
    have hk : achk [l] = 1 := by unfold achk; simp [hr]
    rw [hk]
    simp (maxSteps := 10000000) only [↓sx, sx, ↓ty, ↓reduceIte, Nat.reduceEqDiff, Nat.reduceBeqDiff, Nat.reduceAdd, Nat.reduceLeDiff, Nat.reduceLT, Nat.reduceMul, Nat.reduceSub, Int.reduceEq, Int.reduceBNe, Int.reduceBEq, ne_eq, not_false_eq_true, pc, ls, bs, and_true, true_and, and_self, Nat.reduceAdd, Nat.le_refl, leafP, pi]
  | true =>
    simp (maxSteps := 10000000) only [↓sx, sx, ↓ty, ↓reduceIte, Nat.reduceEqDiff, Nat.reduceBeqDiff, Nat.reduceAdd, Nat.reduceLeDiff, Nat.reduceLT, Nat.reduceMul, Nat.reduceSub, Int.reduceEq, Int.reduceBNe, Int.reduceBEq, ne_eq, not_false_eq_true, pc, ls, bs, and_true, true_and, and_self, Nat.reduceAdd, Nat.le_refl, leafP, pi]
    refine CallT.mk (t := ⟨⟩) B ?_
    cases hu : inU (rd l) with
    | false =>
      have hk : achk [l] = 2 := by
        unfold achk
        rw [rd_rT hr] at hu
        simp [hr, hu]
      rw [hk]
      simp (maxSteps := 10000000) only [↓sx, sx, ↓ty, ↓reduceIte, Nat.reduceEqDiff, Nat.reduceBeqDiff, Nat.reduceAdd, Nat.reduceLeDiff, Nat.reduceLT, Nat.reduceMul, Nat.reduceSub, Int.reduceEq, Int.reduceBNe, Int.reduceBEq, ne_eq, not_false_eq_true, pc, ls, bs, and_true, true_and, and_self, Nat.reduceAdd, Nat.le_refl, leafP, pi]
    | true =>
      have hk : achk [l] = 0 := by
        unfold achk
        rw [rd_rT hr] at hu
        simp [hr, hu]
      rw [hk]
      simp (maxSteps := 10000000) only [↓sx, sx, ↓ty, ↓reduceIte, Nat.reduceEqDiff, Nat.reduceBeqDiff, Nat.reduceAdd, Nat.reduceLeDiff, Nat.reduceLT, Nat.reduceMul, Nat.reduceSub, Int.reduceEq, Int.reduceBNe, Int.reduceBEq, ne_eq, not_false_eq_true, pc, ls, bs, and_true, true_and, and_self, Nat.reduceAdd, Nat.le_refl, leafP, pi]
set_option maxRecDepth 100000 in
theorem valid6_n (l : List UInt8) (hl : l.length < 9000) : Meets Tryz.prog Gd 31 [strP l] (.val (.bool (achk [l] == 0))) := by
  refine meets_of_vc (Y := {}) (N := 12) (rs := [.tmp 2]) mix tk gd Tryz.func31 rfl (by kernel_rfl) rfl rfl (by simp) (by kernel_rfl) ?_
  simp (maxSteps := 10000000) only [↓sx, sx, ↓ty, ↓reduceIte, Nat.reduceEqDiff, Nat.reduceBeqDiff, Nat.reduceAdd, Nat.reduceLeDiff, Nat.reduceLT, Nat.reduceMul, Nat.reduceSub, Int.reduceEq, Int.reduceBNe, Int.reduceBEq, ne_eq, not_false_eq_true, pc, ls, bs, and_true, true_and, and_self, Nat.reduceAdd, Nat.le_refl, leafP, pi]
  refine CallT.mk (t := ⟨⟩) (read6_n l hl) ?_
  simp (maxSteps := 10000000) only [↓sx, sx, ↓ty, ↓reduceIte, Nat.reduceEqDiff, Nat.reduceBeqDiff, Nat.reduceAdd, Nat.reduceLeDiff, Nat.reduceLT, Nat.reduceMul, Nat.reduceSub, Int.reduceEq, Int.reduceBNe, Int.reduceBEq, ne_eq, not_false_eq_true, pc, ls, bs, and_true, true_and, and_self, Nat.reduceAdd, Nat.le_refl, leafP, pi]
set_option maxRecDepth 100000 in
set_option maxHeartbeats 4000000 in
theorem pi6_n (n : Nat) (hn : n ≤ 6) : Meets Tryz.prog Gd 42 [iP (n : Int)] (iqP (piQ n)) := by
  refine meets_of_vc (Y := {}) (N := 16) (rs := [.cell 2 62]) mix tk gd Tryz.func42 rfl (by kernel_rfl) rfl rfl (by simp) (by kernel_rfl) ?_
  have F1 : Meets Tryz.prog Gd 86 [iP 1, iP 5] (qP (1 / 5)) := frac6_n 1 5 (by omega) (by omega) (by omega) (by omega)
  have F2 : Meets Tryz.prog Gd 86 [iP 1, iP 239] (qP (1 / 239)) := frac6_n 1 239 (by omega) (by omega) (by omega) (by omega)
  have I1 : Meets Tryz.prog Gd 56 [iP 16] (qP 16) := int3_n gd 16 (by omega) (by omega)
  have I2 : Meets Tryz.prog Gd 56 [iP 4] (qP 4) := int3_n gd 4 (by omega) (by omega)
  have z1 := serQ_sz c15.2 (by omega) n hn
  have z2 := serQ_sz c1239.2 (by omega) n hn
  have S1 := ser6_n (1 / 5) 1 n c15.2 (by omega) (by omega) hn
  have S2 := ser6_n (1 / 239) 1 n c1239.2 (by omega) (by omega) hn
  have T1 := scale4_n (serQ (1 / 5) n) 16 (z1.mono (by omega)) (c16.2.mono (by omega))
  have T2 := scale4_n (serQ (1 / 239) n) 4 (z2.mono (by omega)) (c4.2.mono (by omega))
  rw [timQ_scale] at T1 T2
  have M := minus4_n (timQ (serQ (1 / 5) n) 16) (timQ (serQ (1 / 239) n) 4) ((timQ_sz z1 c16.2).mono (by omega)) ((timQ_sz z2 c4.2).mono (by omega))
  rw [show ((timQ (serQ (1 / 5) n) 16).1 - (timQ (serQ (1 / 239) n) 4).2, (timQ (serQ (1 / 5) n) 16).2 - (timQ (serQ (1 / 239) n) 4).1) = piQ n from rfl] at M
  generalize piQ n = r at M ⊢
  generalize timQ (serQ (1 / 5) n) 16 = u1 at T1 M
  generalize timQ (serQ (1 / 239) n) 4 = u2 at T2 M
  generalize serQ (1 / 5) n = s1 at S1 T1
  generalize serQ (1 / 239) n = s2 at S2 T2
  generalize (1 / 5 : Rat) = k1 at F1 S1
  generalize (1 / 239 : Rat) = k2 at F2 S2
  generalize (16 : Rat) = k3 at I1 T1
  generalize (4 : Rat) = k4 at I2 T2
  simp (maxSteps := 10000000) only [↓sx, sx, ↓ty, ↓reduceIte, Nat.reduceEqDiff, Nat.reduceBeqDiff, Nat.reduceAdd, Nat.reduceLeDiff, Nat.reduceLT, Nat.reduceMul, Nat.reduceSub, Int.reduceEq, Int.reduceBNe, Int.reduceBEq, ne_eq, not_false_eq_true, pc, ls, bs, and_true, true_and, and_self, Nat.reduceAdd, Nat.le_refl, leafP, pi, pj]
  refine CallT.mk (t := ⟨⟩) F1 ?_
  simp (maxSteps := 10000000) only [↓sx, sx, ↓ty, ↓reduceIte, Nat.reduceEqDiff, Nat.reduceBeqDiff, Nat.reduceAdd, Nat.reduceLeDiff, Nat.reduceLT, Nat.reduceMul, Nat.reduceSub, Int.reduceEq, Int.reduceBNe, Int.reduceBEq, ne_eq, not_false_eq_true, pc, ls, bs, and_true, true_and, and_self, Nat.reduceAdd, Nat.le_refl, leafP, pi, pj]
  refine CallT.mk (t := ⟨⟩) S1 ?_
  simp (maxSteps := 10000000) only [↓sx, sx, ↓ty, ↓reduceIte, Nat.reduceEqDiff, Nat.reduceBeqDiff, Nat.reduceAdd, Nat.reduceLeDiff, Nat.reduceLT, Nat.reduceMul, Nat.reduceSub, Int.reduceEq, Int.reduceBNe, Int.reduceBEq, ne_eq, not_false_eq_true, pc, ls, bs, and_true, true_and, and_self, Nat.reduceAdd, Nat.le_refl, leafP, pi, pj]
  refine CallT.mk (t := ⟨⟩) I1 ?_
  simp (maxSteps := 10000000) only [↓sx, sx, ↓ty, ↓reduceIte, Nat.reduceEqDiff, Nat.reduceBeqDiff, Nat.reduceAdd, Nat.reduceLeDiff, Nat.reduceLT, Nat.reduceMul, Nat.reduceSub, Int.reduceEq, Int.reduceBNe, Int.reduceBEq, ne_eq, not_false_eq_true, pc, ls, bs, and_true, true_and, and_self, Nat.reduceAdd, Nat.le_refl, leafP, pi, pj]
  refine CallT.mk (t := ⟨⟩) T1 ?_
  simp (maxSteps := 10000000) only [↓sx, sx, ↓ty, ↓reduceIte, Nat.reduceEqDiff, Nat.reduceBeqDiff, Nat.reduceAdd, Nat.reduceLeDiff, Nat.reduceLT, Nat.reduceMul, Nat.reduceSub, Int.reduceEq, Int.reduceBNe, Int.reduceBEq, ne_eq, not_false_eq_true, pc, ls, bs, and_true, true_and, and_self, Nat.reduceAdd, Nat.le_refl, leafP, pi, pj]
  refine CallT.mk (t := ⟨⟩) F2 ?_
  simp (maxSteps := 10000000) only [↓sx, sx, ↓ty, ↓reduceIte, Nat.reduceEqDiff, Nat.reduceBeqDiff, Nat.reduceAdd, Nat.reduceLeDiff, Nat.reduceLT, Nat.reduceMul, Nat.reduceSub, Int.reduceEq, Int.reduceBNe, Int.reduceBEq, ne_eq, not_false_eq_true, pc, ls, bs, and_true, true_and, and_self, Nat.reduceAdd, Nat.le_refl, leafP, pi, pj]
  refine CallT.mk (t := ⟨⟩) S2 ?_
  simp (maxSteps := 10000000) only [↓sx, sx, ↓ty, ↓reduceIte, Nat.reduceEqDiff, Nat.reduceBeqDiff, Nat.reduceAdd, Nat.reduceLeDiff, Nat.reduceLT, Nat.reduceMul, Nat.reduceSub, Int.reduceEq, Int.reduceBNe, Int.reduceBEq, ne_eq, not_false_eq_true, pc, ls, bs, and_true, true_and, and_self, Nat.reduceAdd, Nat.le_refl, leafP, pi, pj]
  refine CallT.mk (t := ⟨⟩) I2 ?_
  simp (maxSteps := 10000000) only [↓sx, sx, ↓ty, ↓reduceIte, Nat.reduceEqDiff, Nat.reduceBeqDiff, Nat.reduceAdd, Nat.reduceLeDiff, Nat.reduceLT, Nat.reduceMul, Nat.reduceSub, Int.reduceEq, Int.reduceBNe, Int.reduceBEq, ne_eq, not_false_eq_true, pc, ls, bs, and_true, true_and, and_self, Nat.reduceAdd, Nat.le_refl, leafP, pi, pj]
  refine CallT.mk (t := ⟨⟩) T2 ?_
  simp (maxSteps := 10000000) only [↓sx, sx, ↓ty, ↓reduceIte, Nat.reduceEqDiff, Nat.reduceBeqDiff, Nat.reduceAdd, Nat.reduceLeDiff, Nat.reduceLT, Nat.reduceMul, Nat.reduceSub, Int.reduceEq, Int.reduceBNe, Int.reduceBEq, ne_eq, not_false_eq_true, pc, ls, bs, and_true, true_and, and_self, Nat.reduceAdd, Nat.le_refl, leafP, pi, pj]
  refine CallT.mk (t := ⟨⟩) M ?_
  simp (maxSteps := 10000000) only [↓sx, sx, ↓ty, ↓reduceIte, Nat.reduceEqDiff, Nat.reduceBeqDiff, Nat.reduceAdd, Nat.reduceLeDiff, Nat.reduceLT, Nat.reduceMul, Nat.reduceSub, Int.reduceEq, Int.reduceBNe, Int.reduceBEq, ne_eq, not_false_eq_true, pc, ls, bs, and_true, true_and, and_self, Nat.reduceAdd, Nat.le_refl, leafP, pi, pj]
end Go.Proofs.YtolehnkoocnenaaGreatDoor.S
namespace Gb
open Go Go.RowKit Go.Sx
theorem sgn0 (x : Rat) : (x.num.sign == 0) = decide (x = 0) := by
  by_cases h : x = 0
  · rw [decide_eq_true h, h]; rfl
  · rw [decide_eq_false h, beq_eq_false_iff_ne]
    intro e
    exact h (Rat.num_eq_zero.1 (Int.sign_eq_zero_iff_zero.1 e))
theorem achk2 (a b : List UInt8) : achk [a, b] = if isRat a && isRat b then (if inU (ratOf a) && inU (ratOf b) then 0 else 2) else 1 := by
  unfold achk
  simp only [List.all_cons, List.all_nil, Bool.and_true]
theorem rd_of {a : List UInt8} (h : isRat a = true) : rd a = ratOf a := by unfold rd; rw [if_pos h]
end Gb
namespace Go.Proofs.YtolehnkoocnenaaGreatDoor.S
open Go Go.Sx Go.RowKit Gb Go.Shelf
theorem i6_1 : Meets Tryz.prog Gd 56 [iP 1] (qP 1) := int3_n gd 1 (by omega) (by omega)
theorem i6_2 : Meets Tryz.prog Gd 56 [iP 2] (qP 2) := int3_n gd 2 (by omega) (by omega)
theorem i6_m1 : Meets Tryz.prog Gd 56 [iP (-1)] (qP (-1)) := int3_n gd (-1) (by omega) (by omega)
theorem i6_360 : Meets Tryz.prog Gd 56 [iP 360] (qP 360) := int3_n gd 360 (by omega) (by omega)
theorem f6_12 : Meets Tryz.prog Gd 86 [iP 1, iP 2] (qP (1 / 2)) := frac6_n 1 2 (by omega) (by omega) (by omega) (by omega)
theorem f6_14 : Meets Tryz.prog Gd 86 [iP 1, iP 4] (qP (1 / 4)) := frac6_n 1 4 (by omega) (by omega) (by omega) (by omega)
theorem f6_m12 : Meets Tryz.prog Gd 86 [iP (-1), iP 2] (qP (-1 / 2)) := frac6_n (-1) 2 (by omega) (by omega) (by omega) (by omega)
set_option maxRecDepth 100000 in
theorem cos6_n (x : Rat) (hx : Sz 1000 x) : Meets Tryz.prog Gd 71 [qP x] (qP (cosQ x)) := by
  refine meets_of_vc (Y := {}) (N := 14) (rs := [.cell 2 60]) mix tk gd Tryz.func71 rfl (by kernel_rfl) rfl rfl (by simp) (by kernel_rfl) ?_
  have zm := hx.mul hx
  have z1 := Sz1 2000 (by omega)
  have D := div3_n gd (1 - x * x) (1 + x * x) ((z1.sub zm).mono (by omega)) ((z1.add zm).mono (by omega)) (one_sq x)
  have I := i6_1
  have S := sub3_n gd 1 (x * x) (z1.mono (by omega)) (zm.mono (by omega))
  have A := add3_n gd 1 (x * x) (z1.mono (by omega)) (zm.mono (by omega))
  unfold cosQ
  generalize (1 : Rat) = o at *
  simp (maxSteps := 10000000) only [↓sx, sx, ↓ty, ↓reduceIte, Nat.reduceEqDiff, Nat.reduceBeqDiff, Nat.reduceAdd, Nat.reduceLeDiff, Nat.reduceLT, Nat.reduceMul, Nat.reduceSub, Int.reduceEq, Int.reduceBNe, Int.reduceBEq, ne_eq, not_false_eq_true, pc, ls, bs, and_true, true_and, and_self, Nat.reduceAdd, Nat.le_refl, leafP, pi, pj]
  refine CallT.mk (t := ⟨⟩) (mul3_n gd x x (hx.mono (by omega)) (hx.mono (by omega))) ?_
  simp (maxSteps := 10000000) only [↓sx, sx, ↓ty, ↓reduceIte, Nat.reduceEqDiff, Nat.reduceBeqDiff, Nat.reduceAdd, Nat.reduceLeDiff, Nat.reduceLT, Nat.reduceMul, Nat.reduceSub, Int.reduceEq, Int.reduceBNe, Int.reduceBEq, ne_eq, not_false_eq_true, pc, ls, bs, and_true, true_and, and_self, Nat.reduceAdd, Nat.le_refl, leafP, pi, pj]
  refine CallT.mk (t := ⟨⟩) I ?_
  simp (maxSteps := 10000000) only [↓sx, sx, ↓ty, ↓reduceIte, Nat.reduceEqDiff, Nat.reduceBeqDiff, Nat.reduceAdd, Nat.reduceLeDiff, Nat.reduceLT, Nat.reduceMul, Nat.reduceSub, Int.reduceEq, Int.reduceBNe, Int.reduceBEq, ne_eq, not_false_eq_true, pc, ls, bs, and_true, true_and, and_self, Nat.reduceAdd, Nat.le_refl, leafP, pi, pj]
  refine CallT.mk (t := ⟨⟩) S ?_
  simp (maxSteps := 10000000) only [↓sx, sx, ↓ty, ↓reduceIte, Nat.reduceEqDiff, Nat.reduceBeqDiff, Nat.reduceAdd, Nat.reduceLeDiff, Nat.reduceLT, Nat.reduceMul, Nat.reduceSub, Int.reduceEq, Int.reduceBNe, Int.reduceBEq, ne_eq, not_false_eq_true, pc, ls, bs, and_true, true_and, and_self, Nat.reduceAdd, Nat.le_refl, leafP, pi, pj]
  refine CallT.mk (t := ⟨⟩) I ?_
  simp (maxSteps := 10000000) only [↓sx, sx, ↓ty, ↓reduceIte, Nat.reduceEqDiff, Nat.reduceBeqDiff, Nat.reduceAdd, Nat.reduceLeDiff, Nat.reduceLT, Nat.reduceMul, Nat.reduceSub, Int.reduceEq, Int.reduceBNe, Int.reduceBEq, ne_eq, not_false_eq_true, pc, ls, bs, and_true, true_and, and_self, Nat.reduceAdd, Nat.le_refl, leafP, pi, pj]
  refine CallT.mk (t := ⟨⟩) A ?_
  simp (maxSteps := 10000000) only [↓sx, sx, ↓ty, ↓reduceIte, Nat.reduceEqDiff, Nat.reduceBeqDiff, Nat.reduceAdd, Nat.reduceLeDiff, Nat.reduceLT, Nat.reduceMul, Nat.reduceSub, Int.reduceEq, Int.reduceBNe, Int.reduceBEq, ne_eq, not_false_eq_true, pc, ls, bs, and_true, true_and, and_self, Nat.reduceAdd, Nat.le_refl, leafP, pi, pj]
  refine CallT.mk (t := ⟨⟩) D ?_
  simp (maxSteps := 10000000) only [↓sx, sx, ↓ty, ↓reduceIte, Nat.reduceEqDiff, Nat.reduceBeqDiff, Nat.reduceAdd, Nat.reduceLeDiff, Nat.reduceLT, Nat.reduceMul, Nat.reduceSub, Int.reduceEq, Int.reduceBNe, Int.reduceBEq, ne_eq, not_false_eq_true, pc, ls, bs, and_true, true_and, and_self, Nat.reduceAdd, Nat.le_refl, leafP, pi, pj]
set_option maxRecDepth 100000 in
theorem sin6_n (x : Rat) (hx : Sz 1000 x) : Meets Tryz.prog Gd 72 [qP x] (qP (sinQ x)) := by
  refine meets_of_vc (Y := {}) (N := 12) (rs := [.cell 2 60]) mix tk gd Tryz.func72 rfl (by kernel_rfl) rfl rfl (by simp) (by kernel_rfl) ?_
  have zm := hx.mul hx
  have z1 := Sz1 2000 (by omega)
  have z2 : Sz 1000 (2 : Rat) := Sz.int (z := 2) (Nat.le_trans (Lw_le (k := 1) (by decide)) (by omega)) (by omega)
  have D := div3_n gd (2 * x) (1 + x * x) ((z2.mul hx).mono (by omega)) ((z1.add zm).mono (by omega)) (one_sq x)
  have I := i6_1
  have I2 := i6_2
  have A := add3_n gd 1 (x * x) (z1.mono (by omega)) (zm.mono (by omega))
  have M2 := mul3_n gd 2 x (z2.mono (by omega)) (hx.mono (by omega))
  unfold sinQ
  generalize (1 : Rat) = o at *
  generalize (2 : Rat) = o2 at *
  simp (maxSteps := 10000000) only [↓sx, sx, ↓ty, ↓reduceIte, Nat.reduceEqDiff, Nat.reduceBeqDiff, Nat.reduceAdd, Nat.reduceLeDiff, Nat.reduceLT, Nat.reduceMul, Nat.reduceSub, Int.reduceEq, Int.reduceBNe, Int.reduceBEq, ne_eq, not_false_eq_true, pc, ls, bs, and_true, true_and, and_self, Nat.reduceAdd, Nat.le_refl, leafP, pi, pj]
  refine CallT.mk (t := ⟨⟩) I2 ?_
  simp (maxSteps := 10000000) only [↓sx, sx, ↓ty, ↓reduceIte, Nat.reduceEqDiff, Nat.reduceBeqDiff, Nat.reduceAdd, Nat.reduceLeDiff, Nat.reduceLT, Nat.reduceMul, Nat.reduceSub, Int.reduceEq, Int.reduceBNe, Int.reduceBEq, ne_eq, not_false_eq_true, pc, ls, bs, and_true, true_and, and_self, Nat.reduceAdd, Nat.le_refl, leafP, pi, pj]
  refine CallT.mk (t := ⟨⟩) M2 ?_
  simp (maxSteps := 10000000) only [↓sx, sx, ↓ty, ↓reduceIte, Nat.reduceEqDiff, Nat.reduceBeqDiff, Nat.reduceAdd, Nat.reduceLeDiff, Nat.reduceLT, Nat.reduceMul, Nat.reduceSub, Int.reduceEq, Int.reduceBNe, Int.reduceBEq, ne_eq, not_false_eq_true, pc, ls, bs, and_true, true_and, and_self, Nat.reduceAdd, Nat.le_refl, leafP, pi, pj]
  refine CallT.mk (t := ⟨⟩) I ?_
  simp (maxSteps := 10000000) only [↓sx, sx, ↓ty, ↓reduceIte, Nat.reduceEqDiff, Nat.reduceBeqDiff, Nat.reduceAdd, Nat.reduceLeDiff, Nat.reduceLT, Nat.reduceMul, Nat.reduceSub, Int.reduceEq, Int.reduceBNe, Int.reduceBEq, ne_eq, not_false_eq_true, pc, ls, bs, and_true, true_and, and_self, Nat.reduceAdd, Nat.le_refl, leafP, pi, pj]
  refine CallT.mk (t := ⟨⟩) (mul3_n gd x x (hx.mono (by omega)) (hx.mono (by omega))) ?_
  simp (maxSteps := 10000000) only [↓sx, sx, ↓ty, ↓reduceIte, Nat.reduceEqDiff, Nat.reduceBeqDiff, Nat.reduceAdd, Nat.reduceLeDiff, Nat.reduceLT, Nat.reduceMul, Nat.reduceSub, Int.reduceEq, Int.reduceBNe, Int.reduceBEq, ne_eq, not_false_eq_true, pc, ls, bs, and_true, true_and, and_self, Nat.reduceAdd, Nat.le_refl, leafP, pi, pj]
  refine CallT.mk (t := ⟨⟩) A ?_
  simp (maxSteps := 10000000) only [↓sx, sx, ↓ty, ↓reduceIte, Nat.reduceEqDiff, Nat.reduceBeqDiff, Nat.reduceAdd, Nat.reduceLeDiff, Nat.reduceLT, Nat.reduceMul, Nat.reduceSub, Int.reduceEq, Int.reduceBNe, Int.reduceBEq, ne_eq, not_false_eq_true, pc, ls, bs, and_true, true_and, and_self, Nat.reduceAdd, Nat.le_refl, leafP, pi, pj]
  refine CallT.mk (t := ⟨⟩) D ?_
  simp (maxSteps := 10000000) only [↓sx, sx, ↓ty, ↓reduceIte, Nat.reduceEqDiff, Nat.reduceBeqDiff, Nat.reduceAdd, Nat.reduceLeDiff, Nat.reduceLT, Nat.reduceMul, Nat.reduceSub, Int.reduceEq, Int.reduceBNe, Int.reduceBEq, ne_eq, not_false_eq_true, pc, ls, bs, and_true, true_and, and_self, Nat.reduceAdd, Nat.le_refl, leafP, pi, pj]
theorem cosQ_sz {k : Nat} {x : Rat} (h : Sz k x) (hk : 1 ≤ k) : Sz (8 * k) (cosQ x) :=
  ((c1.2.subT (h.mulT h)).divT (c1.2.addT (h.mulT h)) (by omega)).mono (by omega)
theorem sinQ_sz {k : Nat} {x : Rat} (h : Sz k x) (hk : 1 ≤ k) : Sz (8 * k) (sinQ x) :=
  (((cst [50] 2 (by decide +kernel)).2.mulT h).divT (c1.2.addT (h.mulT h)) (by omega)).mono (by simp; omega)
set_option maxRecDepth 100000 in
theorem cosin6_n (l : List UInt8) (hl : l.length < 800) : Meets Tryz.prog Gd 26 [strP l] (acosP l) := by
  refine meets_of_vc (Y := {}) (N := 17) (rs := [.tmp 2, .tmp 3]) mix tk gd Tryz.func26 rfl (by kernel_rfl) rfl rfl (by simp) (by kernel_rfl) ?_
  have R := read6_n l (by omega)
  have zx : Sz 100 (rd l) := (rd_sz (k := 99) (by omega)).mono (by omega)
  unfold acosP
  by_cases h : achk [l] = 0
  · obtain ⟨hr, hu⟩ := achk_ok h l (by simp)
    rw [if_pos h, ← rd_of hr]
    rw [h] at R
    have C := cos6_n (rd l) (zx.mono (by omega))
    have T := to3_n gd (cosQ (rd l)) ((cosQ_sz zx (by omega)).mono (by omega))
    generalize cosQ (rd l) = c at *
    generalize rd l = x at *
    simp (maxSteps := 10000000) only [↓sx, sx, ↓ty, ↓reduceIte, Nat.reduceEqDiff, Nat.reduceBeqDiff, Nat.reduceAdd, Nat.reduceLeDiff, Nat.reduceLT, Nat.reduceMul, Nat.reduceSub, Int.reduceEq, Int.reduceBNe, Int.reduceBEq, ne_eq, not_false_eq_true, pc, ls, bs, and_true, true_and, and_self, Nat.reduceAdd, Nat.le_refl, leafP, pi]
    refine CallT.mk (t := ⟨⟩) R ?_
    simp (maxSteps := 10000000) only [↓sx, sx, ↓ty, ↓reduceIte, Nat.reduceEqDiff, Nat.reduceBeqDiff, Nat.reduceAdd, Nat.reduceLeDiff, Nat.reduceLT, Nat.reduceMul, Nat.reduceSub, Int.reduceEq, Int.reduceBNe, Int.reduceBEq, ne_eq, not_false_eq_true, pc, ls, bs, and_true, true_and, and_self, Nat.reduceAdd, Nat.le_refl, leafP, pi]
    refine CallT.mk (t := ⟨⟩) C ?_
    simp (maxSteps := 10000000) only [↓sx, sx, ↓ty, ↓reduceIte, Nat.reduceEqDiff, Nat.reduceBeqDiff, Nat.reduceAdd, Nat.reduceLeDiff, Nat.reduceLT, Nat.reduceMul, Nat.reduceSub, Int.reduceEq, Int.reduceBNe, Int.reduceBEq, ne_eq, not_false_eq_true, pc, ls, bs, and_true, true_and, and_self, Nat.reduceAdd, Nat.le_refl, leafP, pi]
    refine CallT.mk (t := ⟨⟩) T ?_
    simp (maxSteps := 10000000) only [↓sx, sx, ↓ty, ↓reduceIte, Nat.reduceEqDiff, Nat.reduceBeqDiff, Nat.reduceAdd, Nat.reduceLeDiff, Nat.reduceLT, Nat.reduceMul, Nat.reduceSub, Int.reduceEq, Int.reduceBNe, Int.reduceBEq, ne_eq, not_false_eq_true, pc, ls, bs, and_true, true_and, and_self, Nat.reduceAdd, Nat.le_refl, leafP, pi]
  · have d0 : (achk [l] != 0) = true := by simp [h]
    rw [if_neg h]
    simp (maxSteps := 10000000) only [↓sx, sx, ↓ty, ↓reduceIte, Nat.reduceEqDiff, Nat.reduceBeqDiff, Nat.reduceAdd, Nat.reduceLeDiff, Nat.reduceLT, Nat.reduceMul, Nat.reduceSub, Int.reduceEq, Int.reduceBNe, Int.reduceBEq, ne_eq, not_false_eq_true, pc, ls, bs, and_true, true_and, and_self, Nat.reduceAdd, Nat.le_refl, leafP, pi]
    refine CallT.mk (t := ⟨⟩) R ?_
    simp (maxSteps := 10000000) only [↓sx, sx, ↓ty, ↓reduceIte, Nat.reduceEqDiff, Nat.reduceBeqDiff, Nat.reduceAdd, Nat.reduceLeDiff, Nat.reduceLT, Nat.reduceMul, Nat.reduceSub, Int.reduceEq, Int.reduceBNe, Int.reduceBEq, ne_eq, not_false_eq_true, pc, ls, bs, and_true, true_and, and_self, Nat.reduceAdd, Nat.le_refl, leafP, pi, d0]
set_option maxRecDepth 100000 in
theorem sine6_n (l : List UInt8) (hl : l.length < 800) : Meets Tryz.prog Gd 28 [strP l] (asinP l) := by
  refine meets_of_vc (Y := {}) (N := 17) (rs := [.tmp 2, .tmp 3]) mix tk gd Tryz.func28 rfl (by kernel_rfl) rfl rfl (by simp) (by kernel_rfl) ?_
  have R := read6_n l (by omega)
  have zx : Sz 100 (rd l) := (rd_sz (k := 99) (by omega)).mono (by omega)
  unfold asinP
  by_cases h : achk [l] = 0
  · obtain ⟨hr, hu⟩ := achk_ok h l (by simp)
    rw [if_pos h, ← rd_of hr]
    rw [h] at R
    have C := sin6_n (rd l) (zx.mono (by omega))
    have T := to3_n gd (sinQ (rd l)) ((sinQ_sz zx (by omega)).mono (by omega))
    generalize sinQ (rd l) = c at *
    generalize rd l = x at *
    simp (maxSteps := 10000000) only [↓sx, sx, ↓ty, ↓reduceIte, Nat.reduceEqDiff, Nat.reduceBeqDiff, Nat.reduceAdd, Nat.reduceLeDiff, Nat.reduceLT, Nat.reduceMul, Nat.reduceSub, Int.reduceEq, Int.reduceBNe, Int.reduceBEq, ne_eq, not_false_eq_true, pc, ls, bs, and_true, true_and, and_self, Nat.reduceAdd, Nat.le_refl, leafP, pi]
    refine CallT.mk (t := ⟨⟩) R ?_
    simp (maxSteps := 10000000) only [↓sx, sx, ↓ty, ↓reduceIte, Nat.reduceEqDiff, Nat.reduceBeqDiff, Nat.reduceAdd, Nat.reduceLeDiff, Nat.reduceLT, Nat.reduceMul, Nat.reduceSub, Int.reduceEq, Int.reduceBNe, Int.reduceBEq, ne_eq, not_false_eq_true, pc, ls, bs, and_true, true_and, and_self, Nat.reduceAdd, Nat.le_refl, leafP, pi]
    refine CallT.mk (t := ⟨⟩) C ?_
    simp (maxSteps := 10000000) only [↓sx, sx, ↓ty, ↓reduceIte, Nat.reduceEqDiff, Nat.reduceBeqDiff, Nat.reduceAdd, Nat.reduceLeDiff, Nat.reduceLT, Nat.reduceMul, Nat.reduceSub, Int.reduceEq, Int.reduceBNe, Int.reduceBEq, ne_eq, not_false_eq_true, pc, ls, bs, and_true, true_and, and_self, Nat.reduceAdd, Nat.le_refl, leafP, pi]
    refine CallT.mk (t := ⟨⟩) T ?_
    simp (maxSteps := 10000000) only [↓sx, sx, ↓ty, ↓reduceIte, Nat.reduceEqDiff, Nat.reduceBeqDiff, Nat.reduceAdd, Nat.reduceLeDiff, Nat.reduceLT, Nat.reduceMul, Nat.reduceSub, Int.reduceEq, Int.reduceBNe, Int.reduceBEq, ne_eq, not_false_eq_true, pc, ls, bs, and_true, true_and, and_self, Nat.reduceAdd, Nat.le_refl, leafP, pi]
  · have d0 : (achk [l] != 0) = true := by simp [h]
    rw [if_neg h]
    simp (maxSteps := 10000000) only [↓sx, sx, ↓ty, ↓reduceIte, Nat.reduceEqDiff, Nat.reduceBeqDiff, Nat.reduceAdd, Nat.reduceLeDiff, Nat.reduceLT, Nat.reduceMul, Nat.reduceSub, Int.reduceEq, Int.reduceBNe, Int.reduceBEq, ne_eq, not_false_eq_true, pc, ls, bs, and_true, true_and, and_self, Nat.reduceAdd, Nat.le_refl, leafP, pi]
    refine CallT.mk (t := ⟨⟩) R ?_
    simp (maxSteps := 10000000) only [↓sx, sx, ↓ty, ↓reduceIte, Nat.reduceEqDiff, Nat.reduceBeqDiff, Nat.reduceAdd, Nat.reduceLeDiff, Nat.reduceLT, Nat.reduceMul, Nat.reduceSub, Int.reduceEq, Int.reduceBNe, Int.reduceBEq, ne_eq, not_false_eq_true, pc, ls, bs, and_true, true_and, and_self, Nat.reduceAdd, Nat.le_refl, leafP, pi, d0]
set_option maxRecDepth 100000 in
set_option maxHeartbeats 4000000 in
theorem sum6_n (a b : List UInt8) (ha : a.length < 400) (hb : b.length < 400) : Meets Tryz.prog Gd 30 [strP a, strP b] (asumP a b) := by
  refine meets_of_vc (Y := {}) (N := 47) (rs := [.tmp 4, .tmp 5]) mix tk gd Tryz.func30 rfl (by kernel_rfl) rfl rfl (by simp) (by kernel_rfl) ?_
  have B := bothq_n a b (by omega) (by omega)
  have zx : Sz 46 (rd a) := (rd_sz (k := 45) (by omega)).mono (by omega)
  have zy : Sz 46 (rd b) := (rd_sz (k := 45) (by omega)).mono (by omega)
  unfold asumP
  rw [achk2]
  cases hv : (isRat a && isRat b) with
  | false =>
    rw [hv] at B
    simp only [Bool.false_eq_true, if_false] at B ⊢
    rw [if_neg (by omega)]
    simp (maxSteps := 10000000) only [↓sx, sx, ↓ty, ↓reduceIte, Nat.reduceEqDiff, Nat.reduceBeqDiff, Nat.reduceAdd, Nat.reduceLeDiff, Nat.reduceLT, Nat.reduceMul, Nat.reduceSub, Int.reduceEq, Int.reduceBNe, Int.reduceBEq, ne_eq, not_false_eq_true, pc, ls, bs, and_true, true_and, and_self, Nat.reduceAdd, Nat.le_refl, leafP, pi]
    refine CallT.mk (t := ⟨⟩) B ?_
    simp (maxSteps := 10000000) only [↓sx, sx, ↓ty, ↓reduceIte, Nat.reduceEqDiff, Nat.reduceBeqDiff, Nat.reduceAdd, Nat.reduceLeDiff, Nat.reduceLT, Nat.reduceMul, Nat.reduceSub, Int.reduceEq, Int.reduceBNe, Int.reduceBEq, ne_eq, not_false_eq_true, pc, ls, bs, and_true, true_and, and_self, Nat.reduceAdd, Nat.le_refl, leafP, pi]
  | true =>
    obtain ⟨h1, h2⟩ := and_split hv
    rw [hv] at B
    simp only [if_true] at B ⊢
    rw [← rd_of h1, ← rd_of h2]
    generalize rd a = x at *
    generalize rd b = y at *
    simp (maxSteps := 10000000) only [↓sx, sx, ↓ty, ↓reduceIte, Nat.reduceEqDiff, Nat.reduceBeqDiff, Nat.reduceAdd, Nat.reduceLeDiff, Nat.reduceLT, Nat.reduceMul, Nat.reduceSub, Int.reduceEq, Int.reduceBNe, Int.reduceBEq, ne_eq, not_false_eq_true, pc, ls, bs, and_true, true_and, and_self, Nat.reduceAdd, Nat.le_refl, leafP, pi]
    refine CallT.mk (t := ⟨⟩) B ?_
    simp (maxSteps := 10000000) only [↓sx, sx, ↓ty, ↓reduceIte, Nat.reduceEqDiff, Nat.reduceBeqDiff, Nat.reduceAdd, Nat.reduceLeDiff, Nat.reduceLT, Nat.reduceMul, Nat.reduceSub, Int.reduceEq, Int.reduceBNe, Int.reduceBEq, ne_eq, not_false_eq_true, pc, ls, bs, and_true, true_and, and_self, Nat.reduceAdd, Nat.le_refl, leafP, pi]
    refine CallT.mk (t := ⟨⟩) (betu_n x (zx.mono (by omega))) ?_
    cases hu : inU x with
    | false =>
      simp only [Bool.false_and, Bool.false_eq_true, if_false]
      rw [if_neg (by omega)]
      simp (maxSteps := 10000000) only [↓sx, sx, ↓ty, ↓reduceIte, Nat.reduceEqDiff, Nat.reduceBeqDiff, Nat.reduceAdd, Nat.reduceLeDiff, Nat.reduceLT, Nat.reduceMul, Nat.reduceSub, Int.reduceEq, Int.reduceBNe, Int.reduceBEq, ne_eq, not_false_eq_true, pc, ls, bs, and_true, true_and, and_self, Nat.reduceAdd, Nat.le_refl, leafP, pi]
    | true =>
      simp (maxSteps := 10000000) only [↓sx, sx, ↓ty, ↓reduceIte, Nat.reduceEqDiff, Nat.reduceBeqDiff, Nat.reduceAdd, Nat.reduceLeDiff, Nat.reduceLT, Nat.reduceMul, Nat.reduceSub, Int.reduceEq, Int.reduceBNe, Int.reduceBEq, ne_eq, not_false_eq_true, pc, ls, bs, and_true, true_and, and_self, Nat.reduceAdd, Nat.le_refl, leafP, pi]
      refine CallT.mk (t := ⟨⟩) (betu_n y (zy.mono (by omega))) ?_
      cases hw : inU y with
      | false =>
        simp only [Bool.and_false, Bool.false_eq_true, if_false]
        rw [if_neg (by omega)]
        simp (maxSteps := 10000000) only [↓sx, sx, ↓ty, ↓reduceIte, Nat.reduceEqDiff, Nat.reduceBeqDiff, Nat.reduceAdd, Nat.reduceLeDiff, Nat.reduceLT, Nat.reduceMul, Nat.reduceSub, Int.reduceEq, Int.reduceBNe, Int.reduceBEq, ne_eq, not_false_eq_true, pc, ls, bs, and_true, true_and, and_self, Nat.reduceAdd, Nat.le_refl, leafP, pi]
      | true =>
        simp only [Bool.and_self, if_true]
        have zm := zx.mul zy
        have z1 := Sz1 92 (by omega)
        have zd := z1.sub zm
        have M := mul3_n gd x y (zx.mono (by omega)) (zy.mono (by omega))
        have S := sub3_n gd 1 (x * y) (Sz1 _ (by omega)) (zm.mono (by omega))
        have A := add3_n gd x y (zx.mono (by omega)) (zy.mono (by omega))
        have I := i6_1
        generalize hD : 1 - x * y = d at *
        have G := sign3_n gd d
        generalize (1 : Rat) = o at *
        simp (maxSteps := 10000000) only [↓sx, sx, ↓ty, ↓reduceIte, Nat.reduceEqDiff, Nat.reduceBeqDiff, Nat.reduceAdd, Nat.reduceLeDiff, Nat.reduceLT, Nat.reduceMul, Nat.reduceSub, Int.reduceEq, Int.reduceBNe, Int.reduceBEq, ne_eq, not_false_eq_true, pc, ls, bs, and_true, true_and, and_self, Nat.reduceAdd, Nat.le_refl, leafP, pi]
        refine CallT.mk (t := ⟨⟩) I ?_
        simp (maxSteps := 10000000) only [↓sx, sx, ↓ty, ↓reduceIte, Nat.reduceEqDiff, Nat.reduceBeqDiff, Nat.reduceAdd, Nat.reduceLeDiff, Nat.reduceLT, Nat.reduceMul, Nat.reduceSub, Int.reduceEq, Int.reduceBNe, Int.reduceBEq, ne_eq, not_false_eq_true, pc, ls, bs, and_true, true_and, and_self, Nat.reduceAdd, Nat.le_refl, leafP, pi]
        refine CallT.mk (t := ⟨⟩) M ?_
        simp (maxSteps := 10000000) only [↓sx, sx, ↓ty, ↓reduceIte, Nat.reduceEqDiff, Nat.reduceBeqDiff, Nat.reduceAdd, Nat.reduceLeDiff, Nat.reduceLT, Nat.reduceMul, Nat.reduceSub, Int.reduceEq, Int.reduceBNe, Int.reduceBEq, ne_eq, not_false_eq_true, pc, ls, bs, and_true, true_and, and_self, Nat.reduceAdd, Nat.le_refl, leafP, pi]
        refine CallT.mk (t := ⟨⟩) S ?_
        simp (maxSteps := 10000000) only [↓sx, sx, ↓ty, ↓reduceIte, Nat.reduceEqDiff, Nat.reduceBeqDiff, Nat.reduceAdd, Nat.reduceLeDiff, Nat.reduceLT, Nat.reduceMul, Nat.reduceSub, Int.reduceEq, Int.reduceBNe, Int.reduceBEq, ne_eq, not_false_eq_true, pc, ls, bs, and_true, true_and, and_self, Nat.reduceAdd, Nat.le_refl, leafP, pi]
        refine CallT.mk (t := ⟨⟩) G ?_
        by_cases h0 : d = 0
        · rw [if_pos h0]
          have e0 : (d.num.sign == 0) = true := by rw [sgn0, decide_eq_true h0]
          simp (maxSteps := 10000000) only [↓sx, sx, ↓ty, ↓reduceIte, Nat.reduceEqDiff, Nat.reduceBeqDiff, Nat.reduceAdd, Nat.reduceLeDiff, Nat.reduceLT, Nat.reduceMul, Nat.reduceSub, Int.reduceEq, Int.reduceBNe, Int.reduceBEq, ne_eq, not_false_eq_true, pc, ls, bs, and_true, true_and, and_self, Nat.reduceAdd, Nat.le_refl, leafP, pi, e0]
        · rw [if_neg h0]
          have e0 : (d.num.sign == 0) = false := by rw [sgn0, decide_eq_false h0]
          have zs := zx.add zy
          have D := div3_n gd (x + y) d (zs.mono (by omega)) (zd.mono (by omega)) h0
          have zq := (zs.mono (m := 500) (by omega)).div (zd.mono (m := 500) (by omega)) (by omega)
          generalize (x + y) / d = z at *
          simp (maxSteps := 10000000) only [↓sx, sx, ↓ty, ↓reduceIte, Nat.reduceEqDiff, Nat.reduceBeqDiff, Nat.reduceAdd, Nat.reduceLeDiff, Nat.reduceLT, Nat.reduceMul, Nat.reduceSub, Int.reduceEq, Int.reduceBNe, Int.reduceBEq, ne_eq, not_false_eq_true, pc, ls, bs, and_true, true_and, and_self, Nat.reduceAdd, Nat.le_refl, leafP, pi, e0]
          refine CallT.mk (t := ⟨⟩) A ?_
          simp (maxSteps := 10000000) only [↓sx, sx, ↓ty, ↓reduceIte, Nat.reduceEqDiff, Nat.reduceBeqDiff, Nat.reduceAdd, Nat.reduceLeDiff, Nat.reduceLT, Nat.reduceMul, Nat.reduceSub, Int.reduceEq, Int.reduceBNe, Int.reduceBEq, ne_eq, not_false_eq_true, pc, ls, bs, and_true, true_and, and_self, Nat.reduceAdd, Nat.le_refl, leafP, pi]
          refine CallT.mk (t := ⟨⟩) D ?_
          simp (maxSteps := 10000000) only [↓sx, sx, ↓ty, ↓reduceIte, Nat.reduceEqDiff, Nat.reduceBeqDiff, Nat.reduceAdd, Nat.reduceLeDiff, Nat.reduceLT, Nat.reduceMul, Nat.reduceSub, Int.reduceEq, Int.reduceBNe, Int.reduceBEq, ne_eq, not_false_eq_true, pc, ls, bs, and_true, true_and, and_self, Nat.reduceAdd, Nat.le_refl, leafP, pi]
          refine CallT.mk (t := ⟨⟩) (betu_n z (zq.mono (by omega))) ?_
          cases hz : inU z with
          | false =>
            simp (maxSteps := 10000000) only [↓sx, sx, ↓ty, ↓reduceIte, Nat.reduceEqDiff, Nat.reduceBeqDiff, Nat.reduceAdd, Nat.reduceLeDiff, Nat.reduceLT, Nat.reduceMul, Nat.reduceSub, Int.reduceEq, Int.reduceBNe, Int.reduceBEq, ne_eq, not_false_eq_true, pc, ls, bs, and_true, true_and, and_self, Nat.reduceAdd, Nat.le_refl, leafP, pi]
          | true =>
            simp (maxSteps := 10000000) only [↓sx, sx, ↓ty, ↓reduceIte, Nat.reduceEqDiff, Nat.reduceBeqDiff, Nat.reduceAdd, Nat.reduceLeDiff, Nat.reduceLT, Nat.reduceMul, Nat.reduceSub, Int.reduceEq, Int.reduceBNe, Int.reduceBEq, ne_eq, not_false_eq_true, pc, ls, bs, and_true, true_and, and_self, Nat.reduceAdd, Nat.le_refl, leafP, pi]
            refine CallT.mk (t := ⟨⟩) (to3_n gd z (zq.mono (by omega))) ?_
            simp (maxSteps := 10000000) only [↓sx, sx, ↓ty, ↓reduceIte, Nat.reduceEqDiff, Nat.reduceBeqDiff, Nat.reduceAdd, Nat.reduceLeDiff, Nat.reduceLT, Nat.reduceMul, Nat.reduceSub, Int.reduceEq, Int.reduceBNe, Int.reduceBEq, ne_eq, not_false_eq_true, pc, ls, bs, and_true, true_and, and_self, Nat.reduceAdd, Nat.le_refl, leafP, pi]
end Go.Proofs.YtolehnkoocnenaaGreatDoor.S
namespace Gb
open Go Go.RowKit Go.Sx
theorem sm12 : Sz 1 (-1 / 2 : Rat) := (cst [45, 49, 47, 50] (-1 / 2) (by decide +kernel)).2
end Gb
namespace Go.Proofs.YtolehnkoocnenaaGreatDoor.S
open Go Go.Sx Go.RowKit Gb Go.Shelf
set_option maxRecDepth 100000 in
set_option maxHeartbeats 4000000 in
theorem arc6_up (x : Rat) (n : Nat) (hx : Sz 2 x) (hn : n ≤ 6) (h : 1 / 2 < x) : Meets Tryz.prog Gd 46 [qP x, iP (n : Int)] (iqP (arcU x n)) := by
  refine meets_of_vc (Y := {}) (N := 40) (rs := [.cell 4 62]) mix tk gd Tryz.func46 rfl (by kernel_rfl) rfl rfl (by simp) (by kernel_rfl) ?_
  have C1 := cmp3_n gd x (-1 / 2) (hx.mono (by omega)) (sm12.mono (by omega))
  have e1 : decide ((x - -1 / 2).num.sign < 0) = false := decide_eq_false (by rw [lt_sign]; grind)
  have C2 := cmp3_n gd x (1 / 2) (hx.mono (by omega)) (c12.2.mono (by omega))
  have e2 : decide ((x - 1 / 2).num.sign ≤ 0) = false := decide_eq_false (by rw [le_sign]; grind)
  generalize (x - -1 / 2).num.sign = s1 at *
  generalize (x - 1 / 2).num.sign = s2 at *
  have I := i6_1
  have F2 := f6_12
  have Fm := f6_m12
  have S := sub3_n gd 1 x (c1.2.mono (by omega)) (hx.mono (by omega))
  have A := add3_n gd 1 x (c1.2.mono (by omega)) (hx.mono (by omega))
  have D := div3_n gd (1 - x) (1 + x) ((c1.2.subT hx).mono (by omega)) ((c1.2.addT hx).mono (by omega)) (by grind)
  have P := pi6_n n hn
  have F := f6_14
  have T := scale4_n (piQ n) (1 / 4) ((piQ_sz n hn).mono (by omega)) (c14.2.mono (by omega))
  rw [timQ_scale] at T
  have R := ser6_n ((1 - x) / (1 + x)) 8 n (rest_sz hx) (by omega) (by omega) hn
  have M := minus4_n (timQ (piQ n) (1 / 4)) (serQ ((1 - x) / (1 + x)) n) ((timQ_sz (piQ_sz n hn) c14.2).mono (by omega)) ((serQ_sz (rest_sz hx) (by omega) n hn).mono (by omega))
  rw [show ((timQ (piQ n) (1 / 4)).1 - (serQ ((1 - x) / (1 + x)) n).2, (timQ (piQ n) (1 / 4)).2 - (serQ ((1 - x) / (1 + x)) n).1) = arcU x n from rfl] at M
  generalize arcU x n = r at M ⊢
  generalize timQ (piQ n) (1 / 4) = u1 at T M
  generalize piQ n = p1 at P T
  generalize serQ ((1 - x) / (1 + x)) n = s3 at R M
  generalize (1 - x) / (1 + x) = q at D R
  clear h
  generalize (-1 / 2 : Rat) = k1 at *
  generalize (1 / 2 : Rat) = k2 at *
  generalize (1 / 4 : Rat) = k3 at *
  generalize (1 : Rat) = k4 at *
  simp (maxSteps := 10000000) only [↓sx, sx, ↓ty, ↓reduceIte, Nat.reduceEqDiff, Nat.reduceBeqDiff, Nat.reduceAdd, Nat.reduceLeDiff, Nat.reduceLT, Nat.reduceMul, Nat.reduceSub, Int.reduceEq, Int.reduceBNe, Int.reduceBEq, ne_eq, not_false_eq_true, pc, ls, bs, and_true, true_and, and_self, Nat.reduceAdd, Nat.le_refl, leafP, pi, pj]
  refine CallT.mk (t := ⟨⟩) Fm ?_
  simp (maxSteps := 10000000) only [↓sx, sx, ↓ty, ↓reduceIte, Nat.reduceEqDiff, Nat.reduceBeqDiff, Nat.reduceAdd, Nat.reduceLeDiff, Nat.reduceLT, Nat.reduceMul, Nat.reduceSub, Int.reduceEq, Int.reduceBNe, Int.reduceBEq, ne_eq, not_false_eq_true, pc, ls, bs, and_true, true_and, and_self, Nat.reduceAdd, Nat.le_refl, leafP, pi, pj]
  refine CallT.mk (t := ⟨⟩) C1 ?_
  simp (maxSteps := 10000000) only [↓sx, sx, ↓ty, ↓reduceIte, Nat.reduceEqDiff, Nat.reduceBeqDiff, Nat.reduceAdd, Nat.reduceLeDiff, Nat.reduceLT, Nat.reduceMul, Nat.reduceSub, Int.reduceEq, Int.reduceBNe, Int.reduceBEq, ne_eq, not_false_eq_true, pc, ls, bs, and_true, true_and, and_self, Nat.reduceAdd, Nat.le_refl, leafP, pi, pj, e1]
  refine CallT.mk (t := ⟨⟩) F2 ?_
  simp (maxSteps := 10000000) only [↓sx, sx, ↓ty, ↓reduceIte, Nat.reduceEqDiff, Nat.reduceBeqDiff, Nat.reduceAdd, Nat.reduceLeDiff, Nat.reduceLT, Nat.reduceMul, Nat.reduceSub, Int.reduceEq, Int.reduceBNe, Int.reduceBEq, ne_eq, not_false_eq_true, pc, ls, bs, and_true, true_and, and_self, Nat.reduceAdd, Nat.le_refl, leafP, pi, pj]
  refine CallT.mk (t := ⟨⟩) C2 ?_
  simp (maxSteps := 10000000) only [↓sx, sx, ↓ty, ↓reduceIte, Nat.reduceEqDiff, Nat.reduceBeqDiff, Nat.reduceAdd, Nat.reduceLeDiff, Nat.reduceLT, Nat.reduceMul, Nat.reduceSub, Int.reduceEq, Int.reduceBNe, Int.reduceBEq, ne_eq, not_false_eq_true, pc, ls, bs, and_true, true_and, and_self, Nat.reduceAdd, Nat.le_refl, leafP, pi, pj, e2]
  refine CallT.mk (t := ⟨⟩) I ?_
  simp (maxSteps := 10000000) only [↓sx, sx, ↓ty, ↓reduceIte, Nat.reduceEqDiff, Nat.reduceBeqDiff, Nat.reduceAdd, Nat.reduceLeDiff, Nat.reduceLT, Nat.reduceMul, Nat.reduceSub, Int.reduceEq, Int.reduceBNe, Int.reduceBEq, ne_eq, not_false_eq_true, pc, ls, bs, and_true, true_and, and_self, Nat.reduceAdd, Nat.le_refl, leafP, pi, pj]
  refine CallT.mk (t := ⟨⟩) S ?_
  simp (maxSteps := 10000000) only [↓sx, sx, ↓ty, ↓reduceIte, Nat.reduceEqDiff, Nat.reduceBeqDiff, Nat.reduceAdd, Nat.reduceLeDiff, Nat.reduceLT, Nat.reduceMul, Nat.reduceSub, Int.reduceEq, Int.reduceBNe, Int.reduceBEq, ne_eq, not_false_eq_true, pc, ls, bs, and_true, true_and, and_self, Nat.reduceAdd, Nat.le_refl, leafP, pi, pj]
  refine CallT.mk (t := ⟨⟩) I ?_
  simp (maxSteps := 10000000) only [↓sx, sx, ↓ty, ↓reduceIte, Nat.reduceEqDiff, Nat.reduceBeqDiff, Nat.reduceAdd, Nat.reduceLeDiff, Nat.reduceLT, Nat.reduceMul, Nat.reduceSub, Int.reduceEq, Int.reduceBNe, Int.reduceBEq, ne_eq, not_false_eq_true, pc, ls, bs, and_true, true_and, and_self, Nat.reduceAdd, Nat.le_refl, leafP, pi, pj]
  refine CallT.mk (t := ⟨⟩) A ?_
  simp (maxSteps := 10000000) only [↓sx, sx, ↓ty, ↓reduceIte, Nat.reduceEqDiff, Nat.reduceBeqDiff, Nat.reduceAdd, Nat.reduceLeDiff, Nat.reduceLT, Nat.reduceMul, Nat.reduceSub, Int.reduceEq, Int.reduceBNe, Int.reduceBEq, ne_eq, not_false_eq_true, pc, ls, bs, and_true, true_and, and_self, Nat.reduceAdd, Nat.le_refl, leafP, pi, pj]
  refine CallT.mk (t := ⟨⟩) D ?_
  simp (maxSteps := 10000000) only [↓sx, sx, ↓ty, ↓reduceIte, Nat.reduceEqDiff, Nat.reduceBeqDiff, Nat.reduceAdd, Nat.reduceLeDiff, Nat.reduceLT, Nat.reduceMul, Nat.reduceSub, Int.reduceEq, Int.reduceBNe, Int.reduceBEq, ne_eq, not_false_eq_true, pc, ls, bs, and_true, true_and, and_self, Nat.reduceAdd, Nat.le_refl, leafP, pi, pj]
  refine CallT.mk (t := ⟨⟩) P ?_
  simp (maxSteps := 10000000) only [↓sx, sx, ↓ty, ↓reduceIte, Nat.reduceEqDiff, Nat.reduceBeqDiff, Nat.reduceAdd, Nat.reduceLeDiff, Nat.reduceLT, Nat.reduceMul, Nat.reduceSub, Int.reduceEq, Int.reduceBNe, Int.reduceBEq, ne_eq, not_false_eq_true, pc, ls, bs, and_true, true_and, and_self, Nat.reduceAdd, Nat.le_refl, leafP, pi, pj]
  refine CallT.mk (t := ⟨⟩) F ?_
  simp (maxSteps := 10000000) only [↓sx, sx, ↓ty, ↓reduceIte, Nat.reduceEqDiff, Nat.reduceBeqDiff, Nat.reduceAdd, Nat.reduceLeDiff, Nat.reduceLT, Nat.reduceMul, Nat.reduceSub, Int.reduceEq, Int.reduceBNe, Int.reduceBEq, ne_eq, not_false_eq_true, pc, ls, bs, and_true, true_and, and_self, Nat.reduceAdd, Nat.le_refl, leafP, pi, pj]
  refine CallT.mk (t := ⟨⟩) T ?_
  simp (maxSteps := 10000000) only [↓sx, sx, ↓ty, ↓reduceIte, Nat.reduceEqDiff, Nat.reduceBeqDiff, Nat.reduceAdd, Nat.reduceLeDiff, Nat.reduceLT, Nat.reduceMul, Nat.reduceSub, Int.reduceEq, Int.reduceBNe, Int.reduceBEq, ne_eq, not_false_eq_true, pc, ls, bs, and_true, true_and, and_self, Nat.reduceAdd, Nat.le_refl, leafP, pi, pj]
  refine CallT.mk (t := ⟨⟩) R ?_
  simp (maxSteps := 10000000) only [↓sx, sx, ↓ty, ↓reduceIte, Nat.reduceEqDiff, Nat.reduceBeqDiff, Nat.reduceAdd, Nat.reduceLeDiff, Nat.reduceLT, Nat.reduceMul, Nat.reduceSub, Int.reduceEq, Int.reduceBNe, Int.reduceBEq, ne_eq, not_false_eq_true, pc, ls, bs, and_true, true_and, and_self, Nat.reduceAdd, Nat.le_refl, leafP, pi, pj]
  refine CallT.mk (t := ⟨⟩) M ?_
  simp (maxSteps := 10000000) only [↓sx, sx, ↓ty, ↓reduceIte, Nat.reduceEqDiff, Nat.reduceBeqDiff, Nat.reduceAdd, Nat.reduceLeDiff, Nat.reduceLT, Nat.reduceMul, Nat.reduceSub, Int.reduceEq, Int.reduceBNe, Int.reduceBEq, ne_eq, not_false_eq_true, pc, ls, bs, and_true, true_and, and_self, Nat.reduceAdd, Nat.le_refl, leafP, pi, pj]
set_option maxRecDepth 100000 in
set_option maxHeartbeats 4000000 in
theorem arc6_n (x : Rat) (n : Nat) (hx : Sz 2 x) (hn : n ≤ 6) : Meets Tryz.prog Gd 46 [qP x, iP (n : Int)] (iqP (arcQ x n)) := by
  by_cases hu : 1 / 2 < x
  · have := arc6_up x n hx hn hu
    unfold arcQ
    rw [if_neg (by unfold inH; rw [decide_eq_true hu]; simp), if_neg (by grind)]
    exact this
  refine meets_of_vc (Y := {}) (N := 40) (rs := [.cell 4 62]) mix tk gd Tryz.func46 rfl (by kernel_rfl) rfl rfl (by simp) (by kernel_rfl) ?_
  have C1 := cmp3_n gd x (-1 / 2) (hx.mono (by omega)) (sm12.mono (by omega))
  have Fm := f6_m12
  unfold arcQ
  by_cases h : x < -1 / 2
  · have e1 : decide ((x - -1 / 2).num.sign < 0) = true := decide_eq_true (by rw [lt_sign]; exact h)
    rw [if_neg (by unfold inH; rw [decide_eq_true (show x < 0 - 1 / 2 by grind)]; simp), if_pos (by grind)]
    have N := neg3_n gd x
    rw [show -x = 0 - x by grind] at N
    have U := arc6_up (0 - x) n (neg_sz2 hx) hn (by grind)
    have I := i6_m1
    have T := scale4_n (arcU (0 - x) n) (-1) ((arcU_sz (neg_sz2 hx) n hn).mono (by omega)) (cm1.2.mono (by omega))
    rw [timQ_scale] at T
    generalize timQ (arcU (0 - x) n) (-1) = r at T ⊢
    generalize arcU (0 - x) n = s at U T
    generalize (x - -1 / 2).num.sign = s1 at *
    clear h hu
    generalize 0 - x = y at *
    generalize (-1 / 2 : Rat) = k1 at *
    generalize (-1 : Rat) = k2 at *
    simp (maxSteps := 10000000) only [↓sx, sx, ↓ty, ↓reduceIte, Nat.reduceEqDiff, Nat.reduceBeqDiff, Nat.reduceAdd, Nat.reduceLeDiff, Nat.reduceLT, Nat.reduceMul, Nat.reduceSub, Int.reduceEq, Int.reduceBNe, Int.reduceBEq, ne_eq, not_false_eq_true, pc, ls, bs, and_true, true_and, and_self, Nat.reduceAdd, Nat.le_refl, leafP, pi, pj]
    refine CallT.mk (t := ⟨⟩) Fm ?_
    simp (maxSteps := 10000000) only [↓sx, sx, ↓ty, ↓reduceIte, Nat.reduceEqDiff, Nat.reduceBeqDiff, Nat.reduceAdd, Nat.reduceLeDiff, Nat.reduceLT, Nat.reduceMul, Nat.reduceSub, Int.reduceEq, Int.reduceBNe, Int.reduceBEq, ne_eq, not_false_eq_true, pc, ls, bs, and_true, true_and, and_self, Nat.reduceAdd, Nat.le_refl, leafP, pi, pj]
    refine CallT.mk (t := ⟨⟩) C1 ?_
    simp (maxSteps := 10000000) only [↓sx, sx, ↓ty, ↓reduceIte, Nat.reduceEqDiff, Nat.reduceBeqDiff, Nat.reduceAdd, Nat.reduceLeDiff, Nat.reduceLT, Nat.reduceMul, Nat.reduceSub, Int.reduceEq, Int.reduceBNe, Int.reduceBEq, ne_eq, not_false_eq_true, pc, ls, bs, and_true, true_and, and_self, Nat.reduceAdd, Nat.le_refl, leafP, pi, pj, e1]
    refine CallT.mk (t := ⟨⟩) N ?_
    simp (maxSteps := 10000000) only [↓sx, sx, ↓ty, ↓reduceIte, Nat.reduceEqDiff, Nat.reduceBeqDiff, Nat.reduceAdd, Nat.reduceLeDiff, Nat.reduceLT, Nat.reduceMul, Nat.reduceSub, Int.reduceEq, Int.reduceBNe, Int.reduceBEq, ne_eq, not_false_eq_true, pc, ls, bs, and_true, true_and, and_self, Nat.reduceAdd, Nat.le_refl, leafP, pi, pj]
    refine CallT.mk (t := ⟨⟩) U ?_
    simp (maxSteps := 10000000) only [↓sx, sx, ↓ty, ↓reduceIte, Nat.reduceEqDiff, Nat.reduceBeqDiff, Nat.reduceAdd, Nat.reduceLeDiff, Nat.reduceLT, Nat.reduceMul, Nat.reduceSub, Int.reduceEq, Int.reduceBNe, Int.reduceBEq, ne_eq, not_false_eq_true, pc, ls, bs, and_true, true_and, and_self, Nat.reduceAdd, Nat.le_refl, leafP, pi, pj]
    refine CallT.mk (t := ⟨⟩) I ?_
    simp (maxSteps := 10000000) only [↓sx, sx, ↓ty, ↓reduceIte, Nat.reduceEqDiff, Nat.reduceBeqDiff, Nat.reduceAdd, Nat.reduceLeDiff, Nat.reduceLT, Nat.reduceMul, Nat.reduceSub, Int.reduceEq, Int.reduceBNe, Int.reduceBEq, ne_eq, not_false_eq_true, pc, ls, bs, and_true, true_and, and_self, Nat.reduceAdd, Nat.le_refl, leafP, pi, pj]
    refine CallT.mk (t := ⟨⟩) T ?_
    simp (maxSteps := 10000000) only [↓sx, sx, ↓ty, ↓reduceIte, Nat.reduceEqDiff, Nat.reduceBeqDiff, Nat.reduceAdd, Nat.reduceLeDiff, Nat.reduceLT, Nat.reduceMul, Nat.reduceSub, Int.reduceEq, Int.reduceBNe, Int.reduceBEq, ne_eq, not_false_eq_true, pc, ls, bs, and_true, true_and, and_self, Nat.reduceAdd, Nat.le_refl, leafP, pi, pj]
  · have e1 : decide ((x - -1 / 2).num.sign < 0) = false := decide_eq_false (by rw [lt_sign]; exact h)
    have C2 := cmp3_n gd x (1 / 2) (hx.mono (by omega)) (c12.2.mono (by omega))
    have e2 : decide ((x - 1 / 2).num.sign ≤ 0) = true := decide_eq_true (by rw [le_sign]; grind)
    have F2 := f6_12
    have R := ser6_n x 2 n hx (by omega) (by omega) hn
    rw [if_pos (by unfold inH; rw [decide_eq_false hu, decide_eq_false (show ¬ x < 0 - 1 / 2 by grind)]; rfl)]
    generalize serQ x n = r at R ⊢
    generalize (x - -1 / 2).num.sign = s1 at *
    generalize (x - 1 / 2).num.sign = s2 at *
    clear h hu
    generalize (-1 / 2 : Rat) = k1 at *
    generalize (1 / 2 : Rat) = k2 at *
    simp (maxSteps := 10000000) only [↓sx, sx, ↓ty, ↓reduceIte, Nat.reduceEqDiff, Nat.reduceBeqDiff, Nat.reduceAdd, Nat.reduceLeDiff, Nat.reduceLT, Nat.reduceMul, Nat.reduceSub, Int.reduceEq, Int.reduceBNe, Int.reduceBEq, ne_eq, not_false_eq_true, pc, ls, bs, and_true, true_and, and_self, Nat.reduceAdd, Nat.le_refl, leafP, pi, pj]
    refine CallT.mk (t := ⟨⟩) Fm ?_
    simp (maxSteps := 10000000) only [↓sx, sx, ↓ty, ↓reduceIte, Nat.reduceEqDiff, Nat.reduceBeqDiff, Nat.reduceAdd, Nat.reduceLeDiff, Nat.reduceLT, Nat.reduceMul, Nat.reduceSub, Int.reduceEq, Int.reduceBNe, Int.reduceBEq, ne_eq, not_false_eq_true, pc, ls, bs, and_true, true_and, and_self, Nat.reduceAdd, Nat.le_refl, leafP, pi, pj]
    refine CallT.mk (t := ⟨⟩) C1 ?_
    simp (maxSteps := 10000000) only [↓sx, sx, ↓ty, ↓reduceIte, Nat.reduceEqDiff, Nat.reduceBeqDiff, Nat.reduceAdd, Nat.reduceLeDiff, Nat.reduceLT, Nat.reduceMul, Nat.reduceSub, Int.reduceEq, Int.reduceBNe, Int.reduceBEq, ne_eq, not_false_eq_true, pc, ls, bs, and_true, true_and, and_self, Nat.reduceAdd, Nat.le_refl, leafP, pi, pj, e1]
    refine CallT.mk (t := ⟨⟩) F2 ?_
    simp (maxSteps := 10000000) only [↓sx, sx, ↓ty, ↓reduceIte, Nat.reduceEqDiff, Nat.reduceBeqDiff, Nat.reduceAdd, Nat.reduceLeDiff, Nat.reduceLT, Nat.reduceMul, Nat.reduceSub, Int.reduceEq, Int.reduceBNe, Int.reduceBEq, ne_eq, not_false_eq_true, pc, ls, bs, and_true, true_and, and_self, Nat.reduceAdd, Nat.le_refl, leafP, pi, pj]
    refine CallT.mk (t := ⟨⟩) C2 ?_
    simp (maxSteps := 10000000) only [↓sx, sx, ↓ty, ↓reduceIte, Nat.reduceEqDiff, Nat.reduceBeqDiff, Nat.reduceAdd, Nat.reduceLeDiff, Nat.reduceLT, Nat.reduceMul, Nat.reduceSub, Int.reduceEq, Int.reduceBNe, Int.reduceBEq, ne_eq, not_false_eq_true, pc, ls, bs, and_true, true_and, and_self, Nat.reduceAdd, Nat.le_refl, leafP, pi, pj, e2]
    refine CallT.mk (t := ⟨⟩) R ?_
    simp (maxSteps := 10000000) only [↓sx, sx, ↓ty, ↓reduceIte, Nat.reduceEqDiff, Nat.reduceBeqDiff, Nat.reduceAdd, Nat.reduceLeDiff, Nat.reduceLT, Nat.reduceMul, Nat.reduceSub, Int.reduceEq, Int.reduceBNe, Int.reduceBEq, ne_eq, not_false_eq_true, pc, ls, bs, and_true, true_and, and_self, Nat.reduceAdd, Nat.le_refl, leafP, pi, pj]
set_option maxRecDepth 100000 in
theorem in6_n (x : Rat) (n : Nat) (hx : Sz 2 x) (h1 : 1 ≤ n) (hn : n ≤ 6) : Meets Tryz.prog Gd 48 [qP x, iP (n : Int)] (iqP (degQ x n)) := by
  refine meets_of_vc (Y := {}) (N := 13) (rs := [.cell 4 62]) mix tk gd Tryz.func48 rfl (by kernel_rfl) rfl rfl (by simp) (by kernel_rfl) ?_
  have A := arc6_n x n hx hn
  have I := i6_360
  have T := scale4_n (arcQ x n) 360 ((arcQ_sz hx n hn).mono (by omega)) (c360.2.mono (by omega))
  rw [timQ_scale] at T
  have P := pi6_n n hn
  have p1 := piQ_pos n h1 hn
  have p2 := piQ_le n
  have D := over4_n (timQ (arcQ x n) 360) (piQ n) ((timQ_sz (arcQ_sz hx n hn) c360.2).mono (by omega)) ((piQ_sz n hn).mono (by omega)) (by grind) (by grind)
  unfold degQ
  clear p1 p2
  generalize overQ (timQ (arcQ x n) 360) (piQ n) = r at D ⊢
  generalize timQ (arcQ x n) 360 = u at T D
  generalize arcQ x n = a at A T
  generalize piQ n = p at P D
  generalize (360 : Rat) = k at I T
  simp (maxSteps := 10000000) only [↓sx, sx, ↓ty, ↓reduceIte, Nat.reduceEqDiff, Nat.reduceBeqDiff, Nat.reduceAdd, Nat.reduceLeDiff, Nat.reduceLT, Nat.reduceMul, Nat.reduceSub, Int.reduceEq, Int.reduceBNe, Int.reduceBEq, ne_eq, not_false_eq_true, pc, ls, bs, and_true, true_and, and_self, Nat.reduceAdd, Nat.le_refl, leafP, pi, pj]
  refine CallT.mk (t := ⟨⟩) A ?_
  simp (maxSteps := 10000000) only [↓sx, sx, ↓ty, ↓reduceIte, Nat.reduceEqDiff, Nat.reduceBeqDiff, Nat.reduceAdd, Nat.reduceLeDiff, Nat.reduceLT, Nat.reduceMul, Nat.reduceSub, Int.reduceEq, Int.reduceBNe, Int.reduceBEq, ne_eq, not_false_eq_true, pc, ls, bs, and_true, true_and, and_self, Nat.reduceAdd, Nat.le_refl, leafP, pi, pj]
  refine CallT.mk (t := ⟨⟩) I ?_
  simp (maxSteps := 10000000) only [↓sx, sx, ↓ty, ↓reduceIte, Nat.reduceEqDiff, Nat.reduceBeqDiff, Nat.reduceAdd, Nat.reduceLeDiff, Nat.reduceLT, Nat.reduceMul, Nat.reduceSub, Int.reduceEq, Int.reduceBNe, Int.reduceBEq, ne_eq, not_false_eq_true, pc, ls, bs, and_true, true_and, and_self, Nat.reduceAdd, Nat.le_refl, leafP, pi, pj]
  refine CallT.mk (t := ⟨⟩) T ?_
  simp (maxSteps := 10000000) only [↓sx, sx, ↓ty, ↓reduceIte, Nat.reduceEqDiff, Nat.reduceBeqDiff, Nat.reduceAdd, Nat.reduceLeDiff, Nat.reduceLT, Nat.reduceMul, Nat.reduceSub, Int.reduceEq, Int.reduceBNe, Int.reduceBEq, ne_eq, not_false_eq_true, pc, ls, bs, and_true, true_and, and_self, Nat.reduceAdd, Nat.le_refl, leafP, pi, pj]
  refine CallT.mk (t := ⟨⟩) P ?_
  simp (maxSteps := 10000000) only [↓sx, sx, ↓ty, ↓reduceIte, Nat.reduceEqDiff, Nat.reduceBeqDiff, Nat.reduceAdd, Nat.reduceLeDiff, Nat.reduceLT, Nat.reduceMul, Nat.reduceSub, Int.reduceEq, Int.reduceBNe, Int.reduceBEq, ne_eq, not_false_eq_true, pc, ls, bs, and_true, true_and, and_self, Nat.reduceAdd, Nat.le_refl, leafP, pi, pj]
  refine CallT.mk (t := ⟨⟩) D ?_
  simp (maxSteps := 10000000) only [↓sx, sx, ↓ty, ↓reduceIte, Nat.reduceEqDiff, Nat.reduceBeqDiff, Nat.reduceAdd, Nat.reduceLeDiff, Nat.reduceLT, Nat.reduceMul, Nat.reduceSub, Int.reduceEq, Int.reduceBNe, Int.reduceBEq, ne_eq, not_false_eq_true, pc, ls, bs, and_true, true_and, and_self, Nat.reduceAdd, Nat.le_refl, leafP, pi, pj]
set_option maxRecDepth 100000 in
theorem pip6_n (n : Int) (hn : n ≤ 6 ∨ 24 < n) : Meets Tryz.prog Gd 13 [iP n] (apiP n) := by
  refine meets_of_vc (Y := {}) (N := 11) (rs := [.cell 2 25, .tmp 3]) mix tk gd Tryz.func13 rfl (by kernel_rfl) rfl rfl (by simp) (by kernel_rfl) ?_
  unfold apiP
  simp (maxSteps := 10000000) only [↓sx, sx, ↓ty, ↓reduceIte, Nat.reduceEqDiff, Nat.reduceBeqDiff, Nat.reduceAdd, Nat.reduceLeDiff, Nat.reduceLT, Nat.reduceMul, Nat.reduceSub, Int.reduceEq, Int.reduceBNe, Int.reduceBEq, ne_eq, not_false_eq_true, pc, ls, bs, and_true, true_and, and_self, Nat.reduceAdd, Nat.le_refl, leafP, pi]
  refine CallT.mk (t := ⟨⟩) (cnt6_n n) ?_
  by_cases h : cntE n = 0
  · obtain ⟨h1, h2⟩ := cntE_ok h
    obtain ⟨m, rfl⟩ : ∃ m : Nat, n = (m : Int) := ⟨n.toNat, by omega⟩
    have P := pi6_n m (by omega)
    have T := to4_n (piQ m) ((piQ_sz m (by omega)).mono (by omega))
    rw [if_pos h, h, Int.toNat_natCast]
    generalize piQ m = r at P T ⊢
    rw [ivQ_pair] at T ⊢
    rw [show ((0 : Int) == 0) = true from rfl]
    simp (maxSteps := 10000000) only [↓sx, sx, ↓ty, ↓reduceIte, Nat.reduceEqDiff, Nat.reduceBeqDiff, Nat.reduceAdd, Nat.reduceLeDiff, Nat.reduceLT, Nat.reduceMul, Nat.reduceSub, Int.reduceEq, Int.reduceBNe, Int.reduceBEq, ne_eq, not_false_eq_true, pc, ls, bs, and_true, true_and, and_self, Nat.reduceAdd, Nat.le_refl, leafP, pi, pj]
    refine CallT.mk (t := ⟨⟩) P ?_
    simp (maxSteps := 10000000) only [↓sx, sx, ↓ty, ↓reduceIte, Nat.reduceEqDiff, Nat.reduceBeqDiff, Nat.reduceAdd, Nat.reduceLeDiff, Nat.reduceLT, Nat.reduceMul, Nat.reduceSub, Int.reduceEq, Int.reduceBNe, Int.reduceBEq, ne_eq, not_false_eq_true, pc, ls, bs, and_true, true_and, and_self, Nat.reduceAdd, Nat.le_refl, leafP, pi, pj]
    refine CallT.mk (t := ⟨⟩) T ?_
    simp (maxSteps := 10000000) only [↓sx, sx, ↓ty, ↓reduceIte, Nat.reduceEqDiff, Nat.reduceBeqDiff, Nat.reduceAdd, Nat.reduceLeDiff, Nat.reduceLT, Nat.reduceMul, Nat.reduceSub, Int.reduceEq, Int.reduceBNe, Int.reduceBEq, ne_eq, not_false_eq_true, pc, ls, bs, and_true, true_and, and_self, Nat.reduceAdd, Nat.le_refl, leafP, pi]
  · have d0 : (cntE n == 0) = false := by simp [h]
    have d1 : cntE n = 2 := by unfold cntE at h ⊢; split <;> simp_all
    rw [if_neg h, d0, d1]
    simp (maxSteps := 10000000) only [↓sx, sx, ↓ty, ↓reduceIte, Nat.reduceEqDiff, Nat.reduceBeqDiff, Nat.reduceAdd, Nat.reduceLeDiff, Nat.reduceLT, Nat.reduceMul, Nat.reduceSub, Int.reduceEq, Int.reduceBNe, Int.reduceBEq, ne_eq, not_false_eq_true, pc, ls, bs, and_true, true_and, and_self, Nat.reduceAdd, Nat.le_refl, leafP, pi]
set_option maxRecDepth 100000 in
theorem arcp6_n (x : List UInt8) (n : Int) (hx : x.length ≤ 9) (hn : n ≤ 6 ∨ 24 < n) : Meets Tryz.prog Gd 15 [strP x, iP n] (aarcP x n) := by
  refine meets_of_vc (Y := {}) (N := 25) (rs := [.cell 4 25, .tmp 5]) mix tk gd Tryz.func15 rfl (by kernel_rfl) rfl rfl (by simp) (by kernel_rfl) ?_
  have R := read6_n x (by omega)
  have zx : Sz 2 (rd x) := rd_sz (k := 1) (by omega)
  unfold aarcP
  by_cases hk : achk [x] = 0
  · obtain ⟨hr, hu⟩ := achk_ok hk x (by simp)
    have ha : askE x n = cntE n := by unfold askE; rw [if_pos hk]
    rw [ha, ← rd_of hr]
    rw [hk] at R
    generalize rd x = y at *
    simp (maxSteps := 10000000) only [↓sx, sx, ↓ty, ↓reduceIte, Nat.reduceEqDiff, Nat.reduceBeqDiff, Nat.reduceAdd, Nat.reduceLeDiff, Nat.reduceLT, Nat.reduceMul, Nat.reduceSub, Int.reduceEq, Int.reduceBNe, Int.reduceBEq, ne_eq, not_false_eq_true, pc, ls, bs, and_true, true_and, and_self, Nat.reduceAdd, Nat.le_refl, leafP, pi]
    refine CallT.mk (t := ⟨⟩) R ?_
    simp (maxSteps := 10000000) only [↓sx, sx, ↓ty, ↓reduceIte, Nat.reduceEqDiff, Nat.reduceBeqDiff, Nat.reduceAdd, Nat.reduceLeDiff, Nat.reduceLT, Nat.reduceMul, Nat.reduceSub, Int.reduceEq, Int.reduceBNe, Int.reduceBEq, ne_eq, not_false_eq_true, pc, ls, bs, and_true, true_and, and_self, Nat.reduceAdd, Nat.le_refl, leafP, pi]
    refine CallT.mk (t := ⟨⟩) (cnt6_n n) ?_
    by_cases h : cntE n = 0
    · obtain ⟨h1, h2⟩ := cntE_ok h
      obtain ⟨m, rfl⟩ : ∃ m : Nat, n = (m : Int) := ⟨n.toNat, by omega⟩
      have P := arc6_n y m zx (by omega)
      have T := to4_n (arcQ y m) ((arcQ_sz zx m (by omega)).mono (by omega))
      rw [if_pos h, h, Int.toNat_natCast]
      generalize arcQ y m = r at P T ⊢
      rw [ivQ_pair] at T ⊢
      rw [show ((0 : Int) == 0) = true from rfl]
      simp (maxSteps := 10000000) only [↓sx, sx, ↓ty, ↓reduceIte, Nat.reduceEqDiff, Nat.reduceBeqDiff, Nat.reduceAdd, Nat.reduceLeDiff, Nat.reduceLT, Nat.reduceMul, Nat.reduceSub, Int.reduceEq, Int.reduceBNe, Int.reduceBEq, ne_eq, not_false_eq_true, pc, ls, bs, and_true, true_and, and_self, Nat.reduceAdd, Nat.le_refl, leafP, pi, pj]
      refine CallT.mk (t := ⟨⟩) P ?_
      simp (maxSteps := 10000000) only [↓sx, sx, ↓ty, ↓reduceIte, Nat.reduceEqDiff, Nat.reduceBeqDiff, Nat.reduceAdd, Nat.reduceLeDiff, Nat.reduceLT, Nat.reduceMul, Nat.reduceSub, Int.reduceEq, Int.reduceBNe, Int.reduceBEq, ne_eq, not_false_eq_true, pc, ls, bs, and_true, true_and, and_self, Nat.reduceAdd, Nat.le_refl, leafP, pi, pj]
      refine CallT.mk (t := ⟨⟩) T ?_
      simp (maxSteps := 10000000) only [↓sx, sx, ↓ty, ↓reduceIte, Nat.reduceEqDiff, Nat.reduceBeqDiff, Nat.reduceAdd, Nat.reduceLeDiff, Nat.reduceLT, Nat.reduceMul, Nat.reduceSub, Int.reduceEq, Int.reduceBNe, Int.reduceBEq, ne_eq, not_false_eq_true, pc, ls, bs, and_true, true_and, and_self, Nat.reduceAdd, Nat.le_refl, leafP, pi]
    · have d0 : (cntE n == 0) = false := by simp [h]
      have d1 : cntE n = 2 := by unfold cntE at h ⊢; split <;> simp_all
      rw [if_neg h, d0, d1]
      simp (maxSteps := 10000000) only [↓sx, sx, ↓ty, ↓reduceIte, Nat.reduceEqDiff, Nat.reduceBeqDiff, Nat.reduceAdd, Nat.reduceLeDiff, Nat.reduceLT, Nat.reduceMul, Nat.reduceSub, Int.reduceEq, Int.reduceBNe, Int.reduceBEq, ne_eq, not_false_eq_true, pc, ls, bs, and_true, true_and, and_self, Nat.reduceAdd, Nat.le_refl, leafP, pi]
  · have ha : askE x n = achk [x] := by unfold askE; rw [if_neg hk]
    have d0 : (achk [x] != 0) = true := by simp [hk]
    rw [ha, if_neg hk]
    simp (maxSteps := 10000000) only [↓sx, sx, ↓ty, ↓reduceIte, Nat.reduceEqDiff, Nat.reduceBeqDiff, Nat.reduceAdd, Nat.reduceLeDiff, Nat.reduceLT, Nat.reduceMul, Nat.reduceSub, Int.reduceEq, Int.reduceBNe, Int.reduceBEq, ne_eq, not_false_eq_true, pc, ls, bs, and_true, true_and, and_self, Nat.reduceAdd, Nat.le_refl, leafP, pi]
    refine CallT.mk (t := ⟨⟩) R ?_
    simp (maxSteps := 10000000) only [↓sx, sx, ↓ty, ↓reduceIte, Nat.reduceEqDiff, Nat.reduceBeqDiff, Nat.reduceAdd, Nat.reduceLeDiff, Nat.reduceLT, Nat.reduceMul, Nat.reduceSub, Int.reduceEq, Int.reduceBNe, Int.reduceBEq, ne_eq, not_false_eq_true, pc, ls, bs, and_true, true_and, and_self, Nat.reduceAdd, Nat.le_refl, leafP, pi, d0]
set_option maxRecDepth 100000 in
theorem degp6_n (x : List UInt8) (n : Int) (hx : x.length ≤ 9) (hn : n ≤ 6 ∨ 24 < n) : Meets Tryz.prog Gd 17 [strP x, iP n] (adegP x n) := by
  refine meets_of_vc (Y := {}) (N := 25) (rs := [.cell 4 25, .tmp 5]) mix tk gd Tryz.func17 rfl (by kernel_rfl) rfl rfl (by simp) (by kernel_rfl) ?_
  have R := read6_n x (by omega)
  have zx : Sz 2 (rd x) := rd_sz (k := 1) (by omega)
  unfold adegP
  by_cases hk : achk [x] = 0
  · obtain ⟨hr, hu⟩ := achk_ok hk x (by simp)
    have ha : askE x n = cntE n := by unfold askE; rw [if_pos hk]
    rw [ha, ← rd_of hr]
    rw [hk] at R
    generalize rd x = y at *
    simp (maxSteps := 10000000) only [↓sx, sx, ↓ty, ↓reduceIte, Nat.reduceEqDiff, Nat.reduceBeqDiff, Nat.reduceAdd, Nat.reduceLeDiff, Nat.reduceLT, Nat.reduceMul, Nat.reduceSub, Int.reduceEq, Int.reduceBNe, Int.reduceBEq, ne_eq, not_false_eq_true, pc, ls, bs, and_true, true_and, and_self, Nat.reduceAdd, Nat.le_refl, leafP, pi]
    refine CallT.mk (t := ⟨⟩) R ?_
    simp (maxSteps := 10000000) only [↓sx, sx, ↓ty, ↓reduceIte, Nat.reduceEqDiff, Nat.reduceBeqDiff, Nat.reduceAdd, Nat.reduceLeDiff, Nat.reduceLT, Nat.reduceMul, Nat.reduceSub, Int.reduceEq, Int.reduceBNe, Int.reduceBEq, ne_eq, not_false_eq_true, pc, ls, bs, and_true, true_and, and_self, Nat.reduceAdd, Nat.le_refl, leafP, pi]
    refine CallT.mk (t := ⟨⟩) (cnt6_n n) ?_
    by_cases h : cntE n = 0
    · obtain ⟨h1, h2⟩ := cntE_ok h
      obtain ⟨m, rfl⟩ : ∃ m : Nat, n = (m : Int) := ⟨n.toNat, by omega⟩
      have P := in6_n y m zx (by omega) (by omega)
      have T := to4_n (degQ y m) ((degQ_sz zx m (by omega)).mono (by omega))
      rw [if_pos h, h, Int.toNat_natCast]
      generalize degQ y m = r at P T ⊢
      rw [ivQ_pair] at T ⊢
      rw [show ((0 : Int) == 0) = true from rfl]
      simp (maxSteps := 10000000) only [↓sx, sx, ↓ty, ↓reduceIte, Nat.reduceEqDiff, Nat.reduceBeqDiff, Nat.reduceAdd, Nat.reduceLeDiff, Nat.reduceLT, Nat.reduceMul, Nat.reduceSub, Int.reduceEq, Int.reduceBNe, Int.reduceBEq, ne_eq, not_false_eq_true, pc, ls, bs, and_true, true_and, and_self, Nat.reduceAdd, Nat.le_refl, leafP, pi, pj]
      refine CallT.mk (t := ⟨⟩) P ?_
      simp (maxSteps := 10000000) only [↓sx, sx, ↓ty, ↓reduceIte, Nat.reduceEqDiff, Nat.reduceBeqDiff, Nat.reduceAdd, Nat.reduceLeDiff, Nat.reduceLT, Nat.reduceMul, Nat.reduceSub, Int.reduceEq, Int.reduceBNe, Int.reduceBEq, ne_eq, not_false_eq_true, pc, ls, bs, and_true, true_and, and_self, Nat.reduceAdd, Nat.le_refl, leafP, pi, pj]
      refine CallT.mk (t := ⟨⟩) T ?_
      simp (maxSteps := 10000000) only [↓sx, sx, ↓ty, ↓reduceIte, Nat.reduceEqDiff, Nat.reduceBeqDiff, Nat.reduceAdd, Nat.reduceLeDiff, Nat.reduceLT, Nat.reduceMul, Nat.reduceSub, Int.reduceEq, Int.reduceBNe, Int.reduceBEq, ne_eq, not_false_eq_true, pc, ls, bs, and_true, true_and, and_self, Nat.reduceAdd, Nat.le_refl, leafP, pi]
    · have d0 : (cntE n == 0) = false := by simp [h]
      have d1 : cntE n = 2 := by unfold cntE at h ⊢; split <;> simp_all
      rw [if_neg h, d0, d1]
      simp (maxSteps := 10000000) only [↓sx, sx, ↓ty, ↓reduceIte, Nat.reduceEqDiff, Nat.reduceBeqDiff, Nat.reduceAdd, Nat.reduceLeDiff, Nat.reduceLT, Nat.reduceMul, Nat.reduceSub, Int.reduceEq, Int.reduceBNe, Int.reduceBEq, ne_eq, not_false_eq_true, pc, ls, bs, and_true, true_and, and_self, Nat.reduceAdd, Nat.le_refl, leafP, pi]
  · have ha : askE x n = achk [x] := by unfold askE; rw [if_neg hk]
    have d0 : (achk [x] != 0) = true := by simp [hk]
    rw [ha, if_neg hk]
    simp (maxSteps := 10000000) only [↓sx, sx, ↓ty, ↓reduceIte, Nat.reduceEqDiff, Nat.reduceBeqDiff, Nat.reduceAdd, Nat.reduceLeDiff, Nat.reduceLT, Nat.reduceMul, Nat.reduceSub, Int.reduceEq, Int.reduceBNe, Int.reduceBEq, ne_eq, not_false_eq_true, pc, ls, bs, and_true, true_and, and_self, Nat.reduceAdd, Nat.le_refl, leafP, pi]
    refine CallT.mk (t := ⟨⟩) R ?_
    simp (maxSteps := 10000000) only [↓sx, sx, ↓ty, ↓reduceIte, Nat.reduceEqDiff, Nat.reduceBeqDiff, Nat.reduceAdd, Nat.reduceLeDiff, Nat.reduceLT, Nat.reduceMul, Nat.reduceSub, Int.reduceEq, Int.reduceBNe, Int.reduceBEq, ne_eq, not_false_eq_true, pc, ls, bs, and_true, true_and, and_self, Nat.reduceAdd, Nat.le_refl, leafP, pi, d0]
end Go.Proofs.YtolehnkoocnenaaGreatDoor.S
namespace Gb
open Go Go.RowKit Go.Sx
def iqC (p : Rat × Rat) : List PV := [.val (.bool (decide (p.1.num < 0))), .sl (wl p.1.num.natAbs).length ((wl p.1.num.natAbs).map wv), .sl (wl p.1.den).length ((wl p.1.den).map wv), .val (.bool (decide (p.2.num < 0))), .sl (wl p.2.num.natAbs).length ((wl p.2.num.natAbs).map wv), .sl (wl p.2.den).length ((wl p.2.den).map wv)]
theorem iqC_c (p : Rat × Rat) : iqC p = [.val (.bool (decide (p.1.num < 0))), .sl (wl p.1.num.natAbs).length ((wl p.1.num.natAbs).map wv), .sl (wl p.1.den).length ((wl p.1.den).map wv), .val (.bool (decide (p.2.num < 0))), .sl (wl p.2.num.natAbs).length ((wl p.2.num.natAbs).map wv), .sl (wl p.2.den).length ((wl p.2.den).map wv)] := rfl
def afterF (x : Rat) (m K : Nat) : PV := ivQ (findL x m K (-1, 1))
theorem gt_dec (x q : Rat) : decide ((q - x).num.sign > 0) = decide (x < q) := by
  congr 1
  apply propext
  constructor
  · intro h; exact Rat.not_le.1 fun h2 => by have := (le_sign q x).2 h2; omega
  · intro h; exact Int.not_le.1 fun h2 => by have := (le_sign q x).1 h2; grind
theorem le_dec (x q : Rat) : decide ((q - x).num.sign ≤ 0) = !decide (x < q) := by
  by_cases h : x < q
  · rw [decide_eq_true h, decide_eq_false]; · rfl
    intro h2; have := (le_sign q x).1 h2; grind
  · rw [decide_eq_false h, decide_eq_true]; · rfl
    exact (le_sign q x).2 (by grind)
end Gb
namespace Go.Proofs.YtolehnkoocnenaaGreatDoor.S
open Go Go.Sx Go.RowKit Gb Go.Shelf
set_option maxRecDepth 100000 in
set_option maxHeartbeats 8000000 in
theorem find6_n (d : List UInt8) (n k : Int) (hd : d.length ≤ 9) (hn : n ≤ 6 ∨ 24 < n) : Meets Tryz.prog Gd 19 [strP d, iP n, iP k] (afindP d n k) := by
  refine meets_of_vc (Y := {}) (N := 71) (rs := [.cell 6 25, .tmp 7]) mix tk gd Tryz.func19 rfl (by kernel_rfl) rfl rfl (by simp) (by kernel_rfl) ?_
  have F := from3_n gd d (by omega)
  rw [show (if isRat d = true then ratOf d else 0) = rd d from rfl] at F
  unfold afindP
  simp (maxSteps := 10000000) only [↓sx, sx, ↓ty, ↓reduceIte, Nat.reduceEqDiff, Nat.reduceBeqDiff, Nat.reduceAdd, Nat.reduceLeDiff, Nat.reduceLT, Nat.reduceMul, Nat.reduceSub, Int.reduceEq, Int.reduceBNe, Int.reduceBEq, ne_eq, not_false_eq_true, pc, ls, bs, and_true, true_and, and_self, Nat.reduceAdd, Nat.le_refl, leafP, pi, pj]
  refine CallT.mk (t := ⟨⟩) F ?_
  cases hr : isRat d with
  | false =>
    have hf : finE d n k = 1 := by unfold finE; rw [hr]; rfl
    rw [hf, if_neg (by omega)]
    simp (maxSteps := 10000000) only [↓sx, sx, ↓ty, ↓reduceIte, Nat.reduceEqDiff, Nat.reduceBeqDiff, Nat.reduceAdd, Nat.reduceLeDiff, Nat.reduceLT, Nat.reduceMul, Nat.reduceSub, Int.reduceEq, Int.reduceBNe, Int.reduceBEq, ne_eq, not_false_eq_true, pc, ls, bs, and_true, true_and, and_self, Nat.reduceAdd, Nat.le_refl, leafP, pi, pj]
  | true =>
    have zd : Sz 2 (rd d) := rd_sz (k := 1) (by omega)
    have hf2 : ¬ (cntE n = 0 ∧ in90 (ratOf d) = true ∧ 0 ≤ k ∧ k ≤ 24) → finE d n k = 2 := fun h => by unfold finE; rw [hr, if_pos rfl, if_neg h]
    simp (maxSteps := 10000000) only [↓sx, sx, ↓ty, ↓reduceIte, Nat.reduceEqDiff, Nat.reduceBeqDiff, Nat.reduceAdd, Nat.reduceLeDiff, Nat.reduceLT, Nat.reduceMul, Nat.reduceSub, Int.reduceEq, Int.reduceBNe, Int.reduceBEq, ne_eq, not_false_eq_true, pc, ls, bs, and_true, true_and, and_self, Nat.reduceAdd, Nat.le_refl, leafP, pi, pj]
    refine CallT.mk (t := ⟨⟩) (cnt6_n n) ?_
    by_cases hc : cntE n = 0
    · obtain ⟨h1, h2⟩ := cntE_ok hc
      obtain ⟨m, rfl⟩ : ∃ m : Nat, n = (m : Int) := ⟨n.toNat, by omega⟩
      have W := bet90_n (rd d) (zd.mono (by omega))
      rw [hc, show ((0 : Int) == 0) = true from rfl]
      simp (maxSteps := 10000000) only [↓sx, sx, ↓ty, ↓reduceIte, Nat.reduceEqDiff, Nat.reduceBeqDiff, Nat.reduceAdd, Nat.reduceLeDiff, Nat.reduceLT, Nat.reduceMul, Nat.reduceSub, Int.reduceEq, Int.reduceBNe, Int.reduceBEq, ne_eq, not_false_eq_true, pc, ls, bs, and_true, true_and, and_self, Nat.reduceAdd, Nat.le_refl, leafP, pi, pj]
      refine CallT.mk (t := ⟨⟩) W ?_
      cases hw : in90 (rd d) with
      | false =>
        rw [hf2 (by rw [← rd_of hr]; simp [hw]), if_neg (by omega)]
        simp (maxSteps := 10000000) only [↓sx, sx, ↓ty, ↓reduceIte, Nat.reduceEqDiff, Nat.reduceBeqDiff, Nat.reduceAdd, Nat.reduceLeDiff, Nat.reduceLT, Nat.reduceMul, Nat.reduceSub, Int.reduceEq, Int.reduceBNe, Int.reduceBEq, ne_eq, not_false_eq_true, pc, ls, bs, and_true, true_and, and_self, Nat.reduceAdd, Nat.le_refl, leafP, pi, pj]
      | true =>
        by_cases hk0 : k < 0
        · have e0 : decide (k < 0) = true := decide_eq_true hk0
          rw [hf2 (by omega), if_neg (by omega)]
          simp (maxSteps := 10000000) only [↓sx, sx, ↓ty, ↓reduceIte, Nat.reduceEqDiff, Nat.reduceBeqDiff, Nat.reduceAdd, Nat.reduceLeDiff, Nat.reduceLT, Nat.reduceMul, Nat.reduceSub, Int.reduceEq, Int.reduceBNe, Int.reduceBEq, ne_eq, not_false_eq_true, pc, ls, bs, and_true, true_and, and_self, Nat.reduceAdd, Nat.le_refl, leafP, pi, pj, e0]
        · have e0 : decide (k < 0) = false := decide_eq_false hk0
          by_cases hk1 : 24 < k
          · have e1 : decide (24 < k) = true := decide_eq_true hk1
            have e1' : decide (k > 24) = true := decide_eq_true hk1
            rw [hf2 (by omega), if_neg (by omega)]
            simp (maxSteps := 10000000) only [↓sx, sx, ↓ty, ↓reduceIte, Nat.reduceEqDiff, Nat.reduceBeqDiff, Nat.reduceAdd, Nat.reduceLeDiff, Nat.reduceLT, Nat.reduceMul, Nat.reduceSub, Int.reduceEq, Int.reduceBNe, Int.reduceBEq, ne_eq, not_false_eq_true, pc, ls, bs, and_true, true_and, and_self, Nat.reduceAdd, Nat.le_refl, leafP, pi, pj, e0, e1, e1']
          · have e1 : decide (24 < k) = false := decide_eq_false hk1
            have e1' : decide (k > 24) = false := decide_eq_false hk1
            have hf : finE d (m : Int) k = 0 := by unfold finE; rw [hr, if_pos rfl, if_pos ⟨hc, by rw [← rd_of hr]; exact hw, by omega, by omega⟩]
            rw [hf, if_pos rfl, ← rd_of hr]
            obtain ⟨K, rfl⟩ : ∃ K : Nat, k = (K : Int) := ⟨k.toNat, by omega⟩
            rw [Int.toNat_natCast, Int.toNat_natCast]
            clear hf hf2 hw W F
            generalize rd d = x at *
            have Im := i6_m1
            have I1 := i6_1
            simp (maxSteps := 10000000) only [↓sx, sx, ↓ty, ↓reduceIte, Nat.reduceEqDiff, Nat.reduceBeqDiff, Nat.reduceAdd, Nat.reduceLeDiff, Nat.reduceLT, Nat.reduceMul, Nat.reduceSub, Int.reduceEq, Int.reduceBNe, Int.reduceBEq, ne_eq, not_false_eq_true, pc, ls, bs, and_true, true_and, and_self, Nat.reduceAdd, Nat.le_refl, leafP, pi, pj, e0, e1, e1']
            refine CallT.mk (t := ⟨⟩) Im ?_
            simp (maxSteps := 10000000) only [↓sx, sx, ↓ty, ↓reduceIte, Nat.reduceEqDiff, Nat.reduceBeqDiff, Nat.reduceAdd, Nat.reduceLeDiff, Nat.reduceLT, Nat.reduceMul, Nat.reduceSub, Int.reduceEq, Int.reduceBNe, Int.reduceBEq, ne_eq, not_false_eq_true, pc, ls, bs, and_true, true_and, and_self, Nat.reduceAdd, Nat.le_refl, leafP, pi, pj]
            refine CallT.mk (t := ⟨⟩) I1 ?_
            simp (maxSteps := 10000000) only [↓sx, sx, ↓ty, ↓reduceIte, Nat.reduceEqDiff, Nat.reduceBeqDiff, Nat.reduceAdd, Nat.reduceLeDiff, Nat.reduceLT, Nat.reduceMul, Nat.reduceSub, Int.reduceEq, Int.reduceBNe, Int.reduceBEq, ne_eq, not_false_eq_true, pc, ls, bs, and_true, true_and, and_self, Nat.reduceAdd, Nat.le_refl, leafP, pi, pj]
            have ef : afterF x m K = ivQ (findL x m K (-1, 1)) := rfl
            rw [← ef]
            refine loopK_of (fun s : Nat × (Rat × Rat) => [(1, .p (iP m)), (2, .p (.val (.int .i64 (K : Nat)))), (6, .box 6 0), (8, .box 8 0), (10, .box 10 0), (11, .p (.val (.int .i64 (s.1 : Nat))))]) (fun s => [(6, (25, [strP [], strP []])), (8, (60, q6C x)), (10, (62, iqC s.2))]) (fun _ => []) (fun s => s.1 ≤ K ∧ GridI s.1 s.2 ∧ findL x m (K - s.1) s.2 = findL x m K (-1, 1)) (fun s => K - s.1) (0, (-1, 1)) ⟨Nat.zero_le _, grid0, rfl⟩ ?_ ?_
            · simp (maxSteps := 10000000) only [isE_nil, is_cons, bo_p, bo_box, bo_orow, bo_rowp, any_cons', all_cons', all_nil', Bool.true_or, Bool.or_true, ↓sx, sx, ↓reduceIte, Nat.reduceEqDiff, Nat.reduceBeqDiff, q6C_c, iqC_c]
              exact ⟨rfl, rfl, rfl⟩
            · rintro ⟨i, o⟩ ⟨hi, hg, hv⟩
              dsimp only at hi hg hv ⊢
              by_cases hil : i < K
              · have e2 : decide ((i : Int) < (K : Int)) = true := decide_eq_true (by omega)
                obtain ⟨⟨so1, so2⟩, sm⟩ := grid_sz (by omega) hg
                have MD := mid6_n o.1 o.2 (so1.mono (by omega)) (so2.mono (by omega))
                have DG := in6_n ((o.1 + o.2) * (1 / 2)) m sm (by omega) (by omega)
                have zq := degQ_sz sm m (by omega)
                have hst : findL x m (K - i) o = match stepF x m o with | some o' => findL x m (K - (i + 1)) o' | none => o := by rw [show K - i = (K - (i + 1)) + 1 by omega]; rfl
                have ghi := grid_hi hg
                have glo := grid_lo hg
                unfold stepF at hst
                generalize (o.1 + o.2) * (1 / 2) = mid at *
                generalize degQ mid m = q at *
                have C1 := cmp3_n gd q.2 x (zq.2.mono (by omega)) (zd.mono (by omega))
                have C2 := cmp3_n gd q.1 x (zq.1.mono (by omega)) (zd.mono (by omega))
                have g1 := le_dec x q.2
                have g2 := gt_dec x q.1
                generalize (q.2 - x).num.sign = s1 at *
                generalize (q.1 - x).num.sign = s2 at *
                simp (maxSteps := 10000000) only [↓sx, sx, ↓ty, ↓reduceIte, Nat.reduceEqDiff, Nat.reduceBeqDiff, Nat.reduceAdd, Nat.reduceLeDiff, Nat.reduceLT, Nat.reduceMul, Nat.reduceSub, Int.reduceEq, Int.reduceBNe, Int.reduceBEq, ne_eq, not_false_eq_true, pc, ls, bs, and_true, true_and, and_self, Nat.reduceAdd, Nat.le_refl, leafP, pi, pj, q6C_c, iqC_c, e2]
                refine CallT.mk (t := ⟨⟩) MD ?_
                simp (maxSteps := 10000000) only [↓sx, sx, ↓ty, ↓reduceIte, Nat.reduceEqDiff, Nat.reduceBeqDiff, Nat.reduceAdd, Nat.reduceLeDiff, Nat.reduceLT, Nat.reduceMul, Nat.reduceSub, Int.reduceEq, Int.reduceBNe, Int.reduceBEq, ne_eq, not_false_eq_true, pc, ls, bs, and_true, true_and, and_self, Nat.reduceAdd, Nat.le_refl, leafP, pi, pj, q6C_c, iqC_c]
                refine CallT.mk (t := ⟨⟩) DG ?_
                simp (maxSteps := 10000000) only [↓sx, sx, ↓ty, ↓reduceIte, Nat.reduceEqDiff, Nat.reduceBeqDiff, Nat.reduceAdd, Nat.reduceLeDiff, Nat.reduceLT, Nat.reduceMul, Nat.reduceSub, Int.reduceEq, Int.reduceBNe, Int.reduceBEq, ne_eq, not_false_eq_true, pc, ls, bs, and_true, true_and, and_self, Nat.reduceAdd, Nat.le_refl, leafP, pi, pj, q6C_c, iqC_c]
                refine CallT.mk (t := ⟨⟩) C1 ?_
                by_cases hq : x < q.2
                · rw [if_pos hq] at hst
                  rw [decide_eq_true hq] at g1
                  simp (maxSteps := 10000000) only [↓sx, sx, ↓ty, ↓reduceIte, Nat.reduceEqDiff, Nat.reduceBeqDiff, Nat.reduceAdd, Nat.reduceLeDiff, Nat.reduceLT, Nat.reduceMul, Nat.reduceSub, Int.reduceEq, Int.reduceBNe, Int.reduceBEq, ne_eq, not_false_eq_true, pc, ls, bs, and_true, true_and, and_self, Nat.reduceAdd, Nat.le_refl, leafP, pi, pj, q6C_c, iqC_c, g1]
                  refine CallT.mk (t := ⟨⟩) C2 ?_
                  by_cases hq1 : x < q.1
                  · rw [if_pos hq1] at hst
                    rw [decide_eq_true hq1] at g2
                    simp (maxSteps := 10000000) only [↓sx, sx, ↓ty, ↓reduceIte, Nat.reduceEqDiff, Nat.reduceBeqDiff, Nat.reduceAdd, Nat.reduceLeDiff, Nat.reduceLT, Nat.reduceMul, Nat.reduceSub, Int.reduceEq, Int.reduceBNe, Int.reduceBEq, ne_eq, not_false_eq_true, pc, ls, bs, and_true, true_and, and_self, Nat.reduceAdd, Nat.le_refl, leafP, pi, pj, q6C_c, iqC_c, g2]
                    refine NextK.mk (i + 1, (o.1, mid)) (by dsimp only; omega) ⟨by dsimp only; omega, glo, by rw [← hv, hst]⟩ ?_
                    simp (maxSteps := 10000000) only [isE_nil, is_cons, bo_p, bo_box, bo_orow, bo_rowp, any_cons', all_cons', all_nil', Bool.true_or, Bool.or_true, ↓sx, sx, ↓reduceIte, Nat.reduceEqDiff, Nat.reduceBeqDiff, q6C_c, iqC_c]
                    rw [i64_id (by omega) (by omega)]
                    exact ⟨rfl, rfl⟩
                  · rw [if_neg hq1] at hst
                    rw [decide_eq_false hq1] at g2
                    have T := to4_n o ⟨so1.mono (by omega), so2.mono (by omega)⟩
                    rw [show afterF x m K = ivQ o by unfold afterF; rw [← hv, hst], ivQ_pair]
                    rw [ivQ_pair] at T
                    simp (maxSteps := 10000000) only [↓sx, sx, ↓ty, ↓reduceIte, Nat.reduceEqDiff, Nat.reduceBeqDiff, Nat.reduceAdd, Nat.reduceLeDiff, Nat.reduceLT, Nat.reduceMul, Nat.reduceSub, Int.reduceEq, Int.reduceBNe, Int.reduceBEq, ne_eq, not_false_eq_true, pc, ls, bs, and_true, true_and, and_self, Nat.reduceAdd, Nat.le_refl, leafP, pi, pj, q6C_c, iqC_c, g2]
                    refine CallT.mk (t := ⟨⟩) T ?_
                    simp (maxSteps := 10000000) only [↓sx, sx, ↓ty, ↓reduceIte, Nat.reduceEqDiff, Nat.reduceBeqDiff, Nat.reduceAdd, Nat.reduceLeDiff, Nat.reduceLT, Nat.reduceMul, Nat.reduceSub, Int.reduceEq, Int.reduceBNe, Int.reduceBEq, ne_eq, not_false_eq_true, pc, ls, bs, and_true, true_and, and_self, Nat.reduceAdd, Nat.le_refl, leafP, pi, pj]
                · rw [if_neg hq] at hst
                  rw [decide_eq_false hq] at g1
                  simp (maxSteps := 10000000) only [↓sx, sx, ↓ty, ↓reduceIte, Nat.reduceEqDiff, Nat.reduceBeqDiff, Nat.reduceAdd, Nat.reduceLeDiff, Nat.reduceLT, Nat.reduceMul, Nat.reduceSub, Int.reduceEq, Int.reduceBNe, Int.reduceBEq, ne_eq, not_false_eq_true, pc, ls, bs, and_true, true_and, and_self, Nat.reduceAdd, Nat.le_refl, leafP, pi, pj, q6C_c, iqC_c, g1]
                  refine NextK.mk (i + 1, (mid, o.2)) (by dsimp only; omega) ⟨by dsimp only; omega, ghi, by rw [← hv, hst]⟩ ?_
                  simp (maxSteps := 10000000) only [isE_nil, is_cons, bo_p, bo_box, bo_orow, bo_rowp, any_cons', all_cons', all_nil', Bool.true_or, Bool.or_true, ↓sx, sx, ↓reduceIte, Nat.reduceEqDiff, Nat.reduceBeqDiff, q6C_c, iqC_c]
                  rw [i64_id (by omega) (by omega)]
                  exact ⟨rfl, rfl⟩
              · obtain rfl : i = K := by omega
                have e2 : decide ((i : Int) < (i : Int)) = false := decide_eq_false (by omega)
                rw [Nat.sub_self] at hv
                obtain ⟨⟨so1, so2⟩, sm⟩ := grid_sz (by omega) hg
                have T := to4_n o ⟨so1.mono (by omega), so2.mono (by omega)⟩
                rw [show afterF x m i = ivQ o by unfold afterF; rw [← hv]; rfl, ivQ_pair]
                rw [ivQ_pair] at T
                simp (maxSteps := 10000000) only [↓sx, sx, ↓ty, ↓reduceIte, Nat.reduceEqDiff, Nat.reduceBeqDiff, Nat.reduceAdd, Nat.reduceLeDiff, Nat.reduceLT, Nat.reduceMul, Nat.reduceSub, Int.reduceEq, Int.reduceBNe, Int.reduceBEq, ne_eq, not_false_eq_true, pc, ls, bs, and_true, true_and, and_self, Nat.reduceAdd, Nat.le_refl, leafP, pi, pj, q6C_c, iqC_c, e2]
                refine CallT.mk (t := ⟨⟩) T ?_
                simp (maxSteps := 10000000) only [↓sx, sx, ↓ty, ↓reduceIte, Nat.reduceEqDiff, Nat.reduceBeqDiff, Nat.reduceAdd, Nat.reduceLeDiff, Nat.reduceLT, Nat.reduceMul, Nat.reduceSub, Int.reduceEq, Int.reduceBNe, Int.reduceBEq, ne_eq, not_false_eq_true, pc, ls, bs, and_true, true_and, and_self, Nat.reduceAdd, Nat.le_refl, leafP, pi, pj]
    · have d0 : (cntE n == 0) = false := by simp [hc]
      rw [hf2 (by simp [hc]), if_neg (by omega), d0]
      simp (maxSteps := 10000000) only [↓sx, sx, ↓ty, ↓reduceIte, Nat.reduceEqDiff, Nat.reduceBeqDiff, Nat.reduceAdd, Nat.reduceLeDiff, Nat.reduceLT, Nat.reduceMul, Nat.reduceSub, Int.reduceEq, Int.reduceBNe, Int.reduceBEq, ne_eq, not_false_eq_true, pc, ls, bs, and_true, true_and, and_self, Nat.reduceAdd, Nat.le_refl, leafP, pi, pj]
end Go.Proofs.YtolehnkoocnenaaGreatDoor.S
namespace Gb
open Go Go.RowKit Go.Sx
end Gb
namespace Gb
open Go Go.RowKit Go.Sx
end Gb
namespace Go.Proofs.YtolehnkoocnenaaGreatDoor.S
open Go Go.Sx Go.RowKit Gb Go.Shelf
end Go.Proofs.YtolehnkoocnenaaGreatDoor.S
namespace Gb
open Go Go.RowKit Go.Sx
end Gb
namespace Go.Proofs.YtolehnkoocnenaaGreatDoor.S
open Go Go.Sx Go.RowKit Gb
variable {G : World → Prop} (hG : ∀ w w' : World, G w → Below w.heap.size w w' → G w')
include hG
end Go.Proofs.YtolehnkoocnenaaGreatDoor.S
namespace Gb
open Go Go.RowKit Go.Sx
end Gb
namespace Go.Proofs.YtolehnkoocnenaaGreatDoor.S
open Go Go.Sx Go.RowKit Gb
variable {G : World → Prop} (hG : ∀ w w' : World, G w → Below w.heap.size w w' → G w')
include hG
end Go.Proofs.YtolehnkoocnenaaGreatDoor.S
namespace Gb
open Go Go.RowKit Go.Sx
end Gb
namespace Go.Proofs.YtolehnkoocnenaaGreatDoor.S
open Go Go.Sx Go.RowKit Gb Go.Shelf
end Go.Proofs.YtolehnkoocnenaaGreatDoor.S
namespace Gb
open Go Go.RowKit Go.Sx
end Gb
namespace Go.Proofs.YtolehnkoocnenaaGreatDoor.S
open Go Go.Sx Go.RowKit Gb Go.Shelf
end Go.Proofs.YtolehnkoocnenaaGreatDoor.S
namespace Gb
open Go Go.RowKit Go.Sx
end Gb
namespace Go.Proofs.YtolehnkoocnenaaGreatDoor.S
open Go Go.Sx Go.RowKit Gb Go.Shelf
end Go.Proofs.YtolehnkoocnenaaGreatDoor.S
