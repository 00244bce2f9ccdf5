/- A part of a proof; the last text of this claim says of what. -/
import Derived.Test.YtkfmneenhochhaaGreatDoorV27
import Derived.ChangeSame
import Derived.OpenShut
import Derived.Carry
import Derived.ChangeOld
import Derived.ProofKit
import Derived.WalkSpells
import Derived.Laws.AppendOwn
set_option linter.unusedVariables false
set_option linter.unusedSimpArgs false
set_option linter.unusedSectionVars false
namespace Gb
open Go Go.RowKit Go.Sx
theorem rT_0 : rT 0 = [48] := by
  unfold rT
  rw [if_pos (show (0 : Rat).den = 1 from rfl)]
  show iD 0 = _
  unfold iD
  rw [if_neg (by decide)]
  exact dec_0
theorem rtP_0 : rtP 0 = .val (.string ⟨#[48]⟩) := by unfold rtP; rw [rT_0]; rfl
def e0 : PV := .val (.string ⟨#[]⟩)
def isignP (a b : List UInt8) : PV := if isIv a b then (if 0 < ratOf a then .tup [iP 1, .val (.bool true), iP 0] else if ratOf b < 0 then .tup [iP (-1), .val (.bool true), iP 0] else .tup [iP 0, .val (.bool (a == b)), iP 0]) else .tup [iP 0, .val (.bool false), iP 1]
theorem isIv_spec {a b : List UInt8} (h : isIv a b = true) : isRat a = true ∧ isRat b = true ∧ ratOf a ≤ ratOf b := by
  unfold isIv at h
  simp only [Bool.and_eq_true, decide_eq_true_eq] at h
  exact ⟨h.1.1, h.1.2, h.2⟩
theorem isIv_rT {x y : Rat} (h : x ≤ y) : isIv (rT x) (rT y) = true := by
  unfold isIv; rw [isRat_rT, isRat_rT, ratOf_rT, ratOf_rT]; simp [h]
theorem ivQ_iv (p : Rat × Rat) : ivQ p = ivP (rT p.1) (rT p.2) := rfl
theorem w4 : IntKind.i64.wrap 0 = 0 ∧ IntKind.i64.wrap 1 = 1 ∧ IntKind.i64.wrap 2 = 2 ∧ IntKind.i64.wrap 3 = 3 := by decide
def cC (r0 r1 r2 r3 : Rat) (n : Nat) : List PV := [if 0 < n then rtP r0 else e0, if 1 < n then rtP r1 else e0, if 2 < n then rtP r2 else e0, if 3 < n then rtP r3 else e0]
end Gb
namespace Go.Proofs.YtkfmneenhochhaaGreatDoor.S
open Go Go.Sx Go.RowKit Gb Go.Shelf
set_option maxRecDepth 100000 in
set_option maxHeartbeats 4000000 in
theorem isign2_n (a b : List UInt8) (ha : a.length < 35000) (hb : b.length < 35000) : Meets Tryz.prog Gd 15 [ivP a b] (isignP a b) := by
  refine meets_of_vc (Y := {}) (N := 22) (rs := [.tmp 2, .tmp 3, .tmp 4]) mix tk gd Tryz.func15 rfl (by kernel_rfl) rfl rfl (by simp) (by kernel_rfl) ?_
  unfold isignP
  simp (maxSteps := 10000000) only [↓sx, sx, ↓ty, ↓reduceIte, Nat.reduceEqDiff, Nat.reduceAdd, ls, Nat.reduceAdd, Nat.le_refl, pi]
  refine CallT.mk (ivalid2_n a b (by omega) (by omega)) ?_
  cases h : isIv a b with
  | false =>
    simp only [Bool.false_eq_true, if_false]
    simp (maxSteps := 10000000) only [↓sx, sx, ↓reduceIte, Nat.reduceEqDiff, pc]
  | true =>
    simp only [if_true]
    obtain ⟨h1, h2, h3⟩ := isIv_spec h
    obtain ⟨a, rfl, sa⟩ := rT_of h1
    obtain ⟨b, rfl, sb⟩ := rT_of h2
    rw [ratOf_rT a, ratOf_rT b]
    simp (maxSteps := 10000000) only [↓sx, sx, ↓ty, ↓reduceIte, Nat.reduceEqDiff, Nat.reduceAdd, ne_eq, not_false_eq_true, ls, Nat.reduceAdd]
    refine CallT.to (less_q 0 a (Sz.int (z := 0) (by rw [Int.natAbs_zero, Lw_zero]; omega) (by omega)) (sa.mono (by omega))) (by rw [rtP_0]; rfl) ?_
    by_cases c1 : 0 < a
    · simp only [c1, decide_true, if_true]
      simp (maxSteps := 10000000) only [↓sx, sx, ↓reduceIte, Nat.reduceEqDiff, pc]
    · simp only [c1, decide_false, if_false]
      simp (maxSteps := 10000000) only [↓sx, sx, ↓ty, ↓reduceIte, Nat.reduceEqDiff, Nat.reduceAdd, ne_eq, not_false_eq_true, ls, Nat.reduceAdd]
      refine CallT.to (less_q b 0 (sb.mono (by omega)) (Sz.int (z := 0) (by rw [Int.natAbs_zero, Lw_zero]; omega) (by omega))) (by rw [rtP_0]; rfl) ?_
      by_cases c2 : b < 0
      · simp only [c2, decide_true, if_true]
        simp (maxSteps := 10000000) only [↓sx, sx, ↓reduceIte, Nat.reduceEqDiff, pc]
      · simp only [c2, decide_false, if_false]
        simp (maxSteps := 10000000) only [↓sx, sx, ↓ty, ↓reduceIte, Nat.reduceEqDiff, Nat.reduceAdd, ne_eq, not_false_eq_true, pc, ls, Nat.reduceAdd]
set_option maxRecDepth 100000 in
set_option maxHeartbeats 4000000 in
theorem corners_ok (g : FuncId) (f : Rat → Rat → Rat) (a1 a2 b1 b2 : Rat) (ha : a1 ≤ a2) (hb : b1 ≤ b2) (sa1 : Sz 1500 a1) (sa2 : Sz 1500 a2) (sb1 : Sz 1500 b1) (sb2 : Sz 1500 b2)
    (hm : ∀ x y, (x = a1 ∨ x = a2) → (y = b1 ∨ y = b2) → Meets Tryz.prog Gd g [rtP x, rtP y] (.tup [rtP (f x y), iP 0]) ∧ Sz 4000 (f x y)) :
    Meets Tryz.prog Gd 58 [.clo g [] [], ivQ (a1, a2), ivQ (b1, b2)] (.tup [ivQ (endsQ (f a1 b1, f a1 b1) [f a1 b2, f a2 b1, f a2 b2]), iP 0]) := by
  refine meets_of_vc (Y := { sf := [121] }) (N := 56) (rs := [.cell 6 24, .tmp 7]) mix tk gd Tryz.func58 rfl (by kernel_rfl) rfl rfl (by simp) (by kernel_rfl) ?_
  have la1 := rT_len sa1
  have la2 := rT_len sa2
  have lb1 := rT_len sb1
  have lb2 := rT_len sb2
  simp (maxSteps := 10000000) only [↓sx, sx, ↓ty, ↓reduceIte, Nat.reduceEqDiff, Nat.reduceAdd, ls, Nat.reduceAdd, Nat.le_refl, pi]
  refine CallT.mk (ivalid2_n (rT a1) (rT a2) (by omega) (by omega)) ?_
  rw [isIv_rT ha]
  simp (maxSteps := 10000000) only [↓sx, sx, ↓ty, ↓reduceIte, Nat.reduceEqDiff, Nat.reduceAdd, Nat.reduceLT, ls, Nat.reduceAdd, Nat.le_refl]
  refine CallT.mk (ivalid2_n (rT b1) (rT b2) (by omega) (by omega)) ?_
  rw [isIv_rT hb]
  simp (maxSteps := 10000000) only [↓sx, sx, ↓ty, ↓reduceIte, Nat.reduceEqDiff, Nat.reduceAdd, Nat.reduceLeDiff, Nat.reduceLT, ne_eq, not_false_eq_true, ls, and_self, Nat.reduceAdd, Nat.le_refl]
  have e00 : e0 = .val (.string ⟨#[]⟩) := rfl
  refine loopK_of (fun i : Nat => [(0, .p (.clo g [] [])), (5, .box 5 0), (6, .box 6 0), (8, .box 8 0), (26, .p (.agg [rtP a1, rtP a2])), (27, .p (.val (.int .i64 (i : Nat))))]) (fun i => [(5, (24, [rtP b1, rtP b2])), (6, (24, [e0, e0])), (8, (121, cC (f a1 b1) (f a1 b2) (f a2 b1) (f a2 b2) (2 * i)))]) (fun _ => []) (fun i => i ≤ 2) (fun i => 2 - i) 0 (Nat.zero_le _) ?_ ?_
  · simp (maxSteps := 10000000) only [isE_nil, is_cons, bo_p, bo_box, any_cons', all_cons', all_nil', Bool.true_or, Bool.or_true, ↓sx, sx, ↓reduceIte, Nat.reduceEqDiff, Nat.reduceBeqDiff]
    trivial
  · intro i hi
    have hi3 : i = 0 ∨ i = 1 ∨ i = 2 := by omega
    rcases hi3 with rfl | rfl | rfl
    · simp (maxSteps := 10000000) only [↓sx, sx, ↓ty, ↓reduceIte, Nat.reduceEqDiff, Nat.reduceAdd, Nat.reduceLeDiff, Nat.reduceLT, Nat.reduceMul, ne_eq, not_false_eq_true, pc, ls, and_self, Nat.reduceAdd, Nat.le_refl, cC, Nat.reduceLT, e00, Int.cast_ofNat_Int, Int.reduceLT, decide_true]
      refine ⟨by omega, loopK_of (fun k : Nat => [(0, .p (.clo g [] [])), (5, .box 5 0), (6, .box 6 0), (8, .box 8 0), (26, .p (.agg [rtP a1, rtP a2])), (27, .p (.val (.int .i64 0))), (9, .p (.val (.int .i64 0))), (10, .p (rtP a1)), (35, .p (.agg [rtP b1, rtP b2])), (36, .p (.val (.int .i64 (k : Nat))))]) (fun k => [(5, (24, [rtP b1, rtP b2])), (6, (24, [e0, e0])), (8, (121, cC (f a1 b1) (f a1 b2) (f a2 b1) (f a2 b2) (0 + k)))]) (fun _ => []) (fun k => k ≤ 2) (fun k => 2 - k) 0 (Nat.zero_le _) ?_ ?_⟩
      · simp (maxSteps := 10000000) only [isE_nil, is_cons, bo_p, bo_box, any_cons', all_cons', all_nil', Bool.true_or, Bool.or_true, ↓sx, sx, ↓reduceIte, Nat.reduceEqDiff, Nat.reduceBeqDiff]
        trivial
      · intro k hk
        have hk3 : k = 0 ∨ k = 1 ∨ k = 2 := by omega
        rcases hk3 with rfl | rfl | rfl
        · simp (maxSteps := 10000000) only [↓sx, sx, ↓ty, ↓reduceIte, Nat.reduceEqDiff, Nat.reduceAdd, Nat.reduceLeDiff, Nat.reduceLT, pc, ls, and_self, Nat.reduceAdd, cC, Nat.reduceLT, e00, Int.cast_ofNat_Int, Int.reduceLT, decide_true, Int.reduceMul, Int.reduceAdd, w4]
          refine ⟨by omega, CallT.mk (hm a1 b1 (.inl rfl) (.inl rfl)).1 ?_⟩
          simp (maxSteps := 10000000) only [↓sx, sx, ↓ty, ↓reduceIte, Nat.reduceEqDiff, Nat.reduceAdd, Nat.reduceLeDiff, Nat.reduceLT, pc, ls, bs, and_self, Nat.reduceAdd, Nat.reduceLT, e00, Int.reduceAdd, w4]
          refine ⟨by omega, NextK.mk 1 (by omega) (by omega) ?_⟩
          simp (maxSteps := 10000000) only [isE_nil, is_cons, bo_p, bo_box, any_cons', all_cons', all_nil', Bool.true_or, Bool.or_true, ↓sx, sx, ↓reduceIte, Nat.reduceEqDiff, Nat.reduceBeqDiff]
          trivial
        · simp (maxSteps := 10000000) only [↓sx, sx, ↓ty, ↓reduceIte, Nat.reduceEqDiff, Nat.reduceAdd, Nat.reduceLT, pc, ls, and_self, Nat.reduceAdd, Nat.le_refl, cC, Nat.reduceLT, e00, Int.cast_ofNat_Int, Int.reduceLT, decide_true, Int.reduceMul, Int.reduceAdd, w4, Int.reduceToNat]
          refine ⟨by omega, CallT.mk (hm a1 b2 (.inl rfl) (.inr rfl)).1 ?_⟩
          simp (maxSteps := 10000000) only [↓sx, sx, ↓ty, ↓reduceIte, Nat.reduceEqDiff, Nat.reduceAdd, Nat.reduceLeDiff, Nat.reduceLT, pc, ls, bs, and_self, Nat.reduceAdd, Nat.reduceLT, e00, Int.reduceAdd, w4, Int.reduceToNat]
          refine ⟨by omega, NextK.mk 2 (by omega) (by omega) ?_⟩
          simp (maxSteps := 10000000) only [isE_nil, is_cons, bo_p, bo_box, any_cons', all_cons', all_nil', Bool.true_or, Bool.or_true, ↓sx, sx, ↓reduceIte, Nat.reduceEqDiff, Nat.reduceBeqDiff]
          trivial
        · simp (maxSteps := 10000000) only [↓sx, sx, ↓reduceIte, Nat.reduceEqDiff, Nat.reduceAdd, Nat.reduceLT, pc, Nat.reduceAdd, cC, Nat.reduceLT, e00, Int.cast_ofNat_Int, Int.reduceLT, decide_false, Int.reduceAdd, w4]
          refine NextK.mk 1 (by omega) (by omega) ?_
          simp (maxSteps := 10000000) only [isE_nil, is_cons, bo_p, bo_box, any_cons', all_cons', all_nil', Bool.true_or, Bool.or_true, ↓sx, sx, ↓reduceIte, Nat.reduceEqDiff, Nat.reduceBeqDiff]
          trivial
    · simp (maxSteps := 10000000) only [↓sx, sx, ↓ty, ↓reduceIte, Nat.reduceEqDiff, Nat.reduceAdd, Nat.reduceLeDiff, Nat.reduceLT, ne_eq, not_false_eq_true, pc, ls, and_self, Nat.reduceAdd, Nat.le_refl, cC, Nat.reduceLT, e00, Int.cast_ofNat_Int, Int.reduceLT, decide_true, Int.reduceToNat]
      refine ⟨by omega, loopK_of (fun k : Nat => [(0, .p (.clo g [] [])), (5, .box 5 0), (6, .box 6 0), (8, .box 8 0), (26, .p (.agg [rtP a1, rtP a2])), (27, .p (.val (.int .i64 1))), (9, .p (.val (.int .i64 1))), (10, .p (rtP a2)), (35, .p (.agg [rtP b1, rtP b2])), (36, .p (.val (.int .i64 (k : Nat))))]) (fun k => [(5, (24, [rtP b1, rtP b2])), (6, (24, [e0, e0])), (8, (121, cC (f a1 b1) (f a1 b2) (f a2 b1) (f a2 b2) (2 + k)))]) (fun _ => []) (fun k => k ≤ 2) (fun k => 2 - k) 0 (Nat.zero_le _) ?_ ?_⟩
      · simp (maxSteps := 10000000) only [isE_nil, is_cons, bo_p, bo_box, any_cons', all_cons', all_nil', Bool.true_or, Bool.or_true, ↓sx, sx, ↓reduceIte, Nat.reduceEqDiff, Nat.reduceBeqDiff]
        trivial
      · intro k hk
        have hk3 : k = 0 ∨ k = 1 ∨ k = 2 := by omega
        rcases hk3 with rfl | rfl | rfl
        · simp (maxSteps := 10000000) only [↓sx, sx, ↓ty, ↓reduceIte, Nat.reduceEqDiff, Nat.reduceAdd, Nat.reduceLeDiff, Nat.reduceLT, pc, ls, and_self, Nat.reduceAdd, cC, Nat.reduceLT, e00, Int.cast_ofNat_Int, Int.reduceLT, decide_true, Int.reduceMul, Int.reduceAdd, w4]
          refine ⟨by omega, CallT.mk (hm a2 b1 (.inr rfl) (.inl rfl)).1 ?_⟩
          simp (maxSteps := 10000000) only [↓sx, sx, ↓ty, ↓reduceIte, Nat.reduceEqDiff, Nat.reduceAdd, Nat.reduceLeDiff, Nat.reduceLT, pc, ls, bs, and_self, Nat.reduceAdd, Nat.reduceLT, e00, Int.reduceAdd, w4, Int.reduceToNat]
          refine ⟨by omega, NextK.mk 1 (by omega) (by omega) ?_⟩
          simp (maxSteps := 10000000) only [isE_nil, is_cons, bo_p, bo_box, any_cons', all_cons', all_nil', Bool.true_or, Bool.or_true, ↓sx, sx, ↓reduceIte, Nat.reduceEqDiff, Nat.reduceBeqDiff]
          trivial
        · simp (maxSteps := 10000000) only [↓sx, sx, ↓ty, ↓reduceIte, Nat.reduceEqDiff, Nat.reduceAdd, Nat.reduceLT, pc, ls, and_self, Nat.reduceAdd, Nat.le_refl, cC, Nat.reduceLT, e00, Int.cast_ofNat_Int, Int.reduceLT, decide_true, Int.reduceMul, Int.reduceAdd, w4, Int.reduceToNat]
          refine ⟨by omega, CallT.mk (hm a2 b2 (.inr rfl) (.inr rfl)).1 ?_⟩
          simp (maxSteps := 10000000) only [↓sx, sx, ↓ty, ↓reduceIte, Nat.reduceEqDiff, Nat.reduceAdd, Nat.reduceLT, pc, ls, bs, and_self, Nat.reduceAdd, Nat.le_refl, Nat.reduceLT, e00, Int.reduceAdd, w4, Int.reduceToNat]
          refine ⟨by omega, NextK.mk 2 (by omega) (by omega) ?_⟩
          simp (maxSteps := 10000000) only [isE_nil, is_cons, bo_p, bo_box, any_cons', all_cons', all_nil', Bool.true_or, Bool.or_true, ↓sx, sx, ↓reduceIte, Nat.reduceEqDiff, Nat.reduceBeqDiff]
          trivial
        · simp (maxSteps := 10000000) only [↓sx, sx, ↓reduceIte, Nat.reduceEqDiff, Nat.reduceAdd, Nat.reduceLT, pc, Nat.reduceAdd, cC, Nat.reduceLT, e00, Int.cast_ofNat_Int, Int.reduceLT, decide_false, Int.reduceAdd, w4]
          refine NextK.mk 2 (by omega) (by omega) ?_
          simp (maxSteps := 10000000) only [isE_nil, is_cons, bo_p, bo_box, any_cons', all_cons', all_nil', Bool.true_or, Bool.or_true, ↓sx, sx, ↓reduceIte, Nat.reduceEqDiff, Nat.reduceBeqDiff]
          trivial
    · simp (maxSteps := 10000000) only [↓sx, sx, ↓ty, ↓reduceIte, Nat.reduceEqDiff, Nat.reduceLT, Nat.reduceMul, pc, ls, cC, Nat.reduceLT, e00, Int.cast_ofNat_Int, Int.reduceLT, decide_false, Int.reduceToNat]
      have k11 := (hm a1 b1 (.inl rfl) (.inl rfl)).2
      have k12 := (hm a1 b2 (.inl rfl) (.inr rfl)).2
      have k21 := (hm a2 b1 (.inr rfl) (.inl rfl)).2
      have k22 := (hm a2 b2 (.inr rfl) (.inr rfl)).2
      refine ⟨by omega, CallT.mk (ends_n (f a1 b1) [f a1 b2, f a2 b1, f a2 b2] k11 (by simp [k12, k21, k22]) (by simp)) ?_⟩
      simp (maxSteps := 10000000) only [↓sx, sx, ↓ty, ↓reduceIte, Nat.reduceEqDiff, Nat.reduceAdd, pc, ls, bs, and_self, Nat.reduceAdd, Nat.le_refl, pi]
set_option maxRecDepth 100000 in
theorem corners_no (g : FuncId) (a1 a2 b1 b2 : List UInt8) (ha1 : a1.length < 90000) (ha2 : a2.length < 90000) (hb1 : b1.length < 90000) (hb2 : b2.length < 90000) (h : (isIv a1 a2 && isIv b1 b2) = false) :
    Meets Tryz.prog Gd 58 [.clo g [] [], ivP a1 a2, ivP b1 b2] (.tup [ivP [] [], iP 1]) := by
  refine meets_of_vc (Y := { sf := [121] }) (N := 56) (rs := [.cell 6 24, .tmp 7]) mix tk gd Tryz.func58 rfl (by kernel_rfl) rfl rfl (by simp) (by kernel_rfl) ?_
  simp (maxSteps := 10000000) only [↓sx, sx, ↓ty, ↓reduceIte, Nat.reduceEqDiff, Nat.reduceAdd, ls, Nat.reduceAdd, Nat.le_refl, pi]
  refine CallT.mk (ivalid2_n a1 a2 ha1 ha2) ?_
  cases h1 : isIv a1 a2 with
  | false =>
    simp (maxSteps := 10000000) only [↓sx, sx, ↓ty, ↓reduceIte, Nat.reduceEqDiff, Nat.reduceAdd, Nat.reduceLT, pc, ls, bs, and_self, Nat.reduceAdd, Nat.le_refl, pi]
  | true =>
    rw [h1, Bool.true_and] at h
    simp (maxSteps := 10000000) only [↓sx, sx, ↓ty, ↓reduceIte, Nat.reduceEqDiff, Nat.reduceAdd, Nat.reduceLT, ls, Nat.reduceAdd, Nat.le_refl]
    refine CallT.mk (ivalid2_n b1 b2 hb1 hb2) ?_
    rw [h]
    simp (maxSteps := 10000000) only [↓sx, sx, ↓ty, ↓reduceIte, Nat.reduceEqDiff, Nat.reduceAdd, Nat.reduceLT, pc, ls, bs, and_self, Nat.reduceAdd, Nat.le_refl, pi]
end Go.Proofs.YtkfmneenhochhaaGreatDoor.S
namespace Gb
open Go Go.RowKit Go.Sx
def corQ (f : Rat → Rat → Rat) (a1 a2 b1 b2 : Rat) : Rat × Rat := endsQ (f a1 b1, f a1 b1) [f a1 b2, f a2 b1, f a2 b2]
def icorP (f : Rat → Rat → Rat) (a1 a2 b1 b2 : List UInt8) : PV := if isIv a1 a2 && isIv b1 b2 then .tup [ivQ (corQ f (ratOf a1) (ratOf a2) (ratOf b1) (ratOf b2)), iP 0] else .tup [ivP [] [], iP 1]
def zeroIn (a1 a2 : List UInt8) : Bool := isIv a1 a2 && !decide (0 < ratOf a1) && !decide (ratOf a2 < 0)
def idivP (a1 a2 b1 b2 : List UInt8) : PV := if isIv a1 a2 && zeroIn b1 b2 then .tup [ivP [] [], iP 16] else icorP (· / ·) a1 a2 b1 b2
def isqP (a1 a2 : List UInt8) : PV := if isIv a1 a2 then (if zeroIn a1 a2 then .tup [ivQ (endsQ (0, 0) [ratOf a1 * ratOf a1, ratOf a2 * ratOf a2]), iP 0] else .tup [ivQ (endsQ (ratOf a1 * ratOf a1, ratOf a1 * ratOf a1) [ratOf a2 * ratOf a2]), iP 0]) else .tup [ivP [] [], iP 1]
theorem ratOf_0 : ratOf [48] = 0 := by
  have := ratOf_rT 0
  rwa [rT_0] at this
theorem isRat_0 : isRat [48] = true := by
  have := isRat_rT 0
  rwa [rT_0] at this
theorem Sz0 (k : Nat) (hk : 1 ≤ k) : Sz k 0 := Sz.int (z := 0) (by rw [Int.natAbs_zero, Lw_zero]; omega) hk
end Gb
namespace Go.Proofs.YtkfmneenhochhaaGreatDoor.S
open Go Go.Sx Go.RowKit Gb Go.Shelf
theorem rop_q {F : FuncId} {f : Rat → Rat → Rat} (h : ∀ a b : List UInt8, a.length < 90000 → b.length < 90000 → Meets Tryz.prog Gd F [strP a, strP b] (ropP f a b)) (x y : Rat) (hx : Sz 4000 x) (hy : Sz 4000 y) :
    Meets Tryz.prog Gd F [rtP x, rtP y] (.tup [rtP (f x y), iP 0]) := by
  have := h (rT x) (rT y) (by have := rT_len hx; omega) (by have := rT_len hy; omega)
  unfold ropP at this
  rw [isRat_rT, isRat_rT, ratOf_rT, ratOf_rT] at this
  exact this
theorem rdiv_q (x y : Rat) (hx : Sz 4000 x) (hy : Sz 4000 y) (h0 : y ≠ 0) : Meets Tryz.prog Gd 45 [rtP x, rtP y] (.tup [rtP (x / y), iP 0]) := by
  have := rdiv_n (rT x) (rT y) (by have := rT_len hx; omega) (by have := rT_len hy; omega)
  unfold rdivP at this
  rw [isRat_rT, isRat_rT, ratOf_rT, ratOf_rT, if_neg h0] at this
  exact this
theorem cor_q {F : FuncId} (f : Rat → Rat → Rat) (a1 a2 b1 b2 : List UInt8) (ha1 : a1.length < 13000) (ha2 : a2.length < 13000) (hb1 : b1.length < 13000) (hb2 : b2.length < 13000)
    (h : isIv a1 a2 = true → isIv b1 b2 = true → ∀ x y, Sz 1500 x → Sz 1500 y → (y = ratOf b1 ∨ y = ratOf b2) → Meets Tryz.prog Gd F [rtP x, rtP y] (.tup [rtP (f x y), iP 0]) ∧ Sz 4000 (f x y)) :
    Meets Tryz.prog Gd 58 [.clo F [] [], ivP a1 a2, ivP b1 b2] (icorP f a1 a2 b1 b2) := by
  unfold icorP
  cases hv : (isIv a1 a2 && isIv b1 b2) with
  | false => exact corners_no F a1 a2 b1 b2 (by omega) (by omega) (by omega) (by omega) hv
  | true =>
    obtain ⟨h1, h2⟩ := and_split hv
    replace h := h h1 h2
    obtain ⟨v1, v2, v3⟩ := isIv_spec h1
    obtain ⟨v4, v5, v6⟩ := isIv_spec h2
    obtain ⟨a1, rfl, sa1⟩ := rT_of v1
    obtain ⟨a2, rfl, sa2⟩ := rT_of v2
    obtain ⟨b1, rfl, sb1⟩ := rT_of v4
    obtain ⟨b2, rfl, sb2⟩ := rT_of v5
    rw [ratOf_rT, ratOf_rT] at h v3 v6
    rw [ratOf_rT, ratOf_rT, ratOf_rT, ratOf_rT]
    have sa1 := sa1.mono (m := 1500) (by omega)
    have sa2 := sa2.mono (m := 1500) (by omega)
    have sb1 := sb1.mono (m := 1500) (by omega)
    have sb2 := sb2.mono (m := 1500) (by omega)
    refine corners_ok F f a1 a2 b1 b2 v3 v6 sa1 sa2 sb1 sb2 fun x y hx hy => ?_
    refine h x y ?_ ?_ hy
    · rcases hx with rfl | rfl
      · exact sa1
      · exact sa2
    · rcases hy with rfl | rfl
      · exact sb1
      · exact sb2
set_option maxRecDepth 100000 in
theorem iadd2_n (a1 a2 b1 b2 : List UInt8) (ha1 : a1.length < 13000) (ha2 : a2.length < 13000) (hb1 : b1.length < 13000) (hb2 : b2.length < 13000) : Meets Tryz.prog Gd 21 [ivP a1 a2, ivP b1 b2] (icorP (· + ·) a1 a2 b1 b2) := by
  refine meets_of_vc (Y := {}) (N := 11) (rs := [.cell 4 24, .tmp 5]) mix tk gd Tryz.func21 rfl (by kernel_rfl) rfl rfl (by simp) (by kernel_rfl) ?_
  simp (maxSteps := 10000000) only [↓sx, sx, ↓ty, ↓reduceIte, Nat.reduceEqDiff, Nat.reduceAdd, ls, Nat.reduceAdd, Nat.le_refl, pi]
  refine CallT.mk (cor_q (· + ·) a1 a2 b1 b2 ha1 ha2 hb1 hb2 fun _ _ x y hx hy _ => ⟨rop_q radd_n x y (hx.mono (by omega)) (hy.mono (by omega)), (hx.add hy).mono (by omega)⟩) ?_
  unfold icorP
  split
  · simp (maxSteps := 10000000) only [↓sx, sx, ↓ty, ↓reduceIte, Nat.reduceEqDiff, Nat.reduceAdd, pc, ls, bs, and_self, Nat.reduceAdd, Nat.le_refl, pi]
  · simp (maxSteps := 10000000) only [↓sx, sx, ↓ty, ↓reduceIte, Nat.reduceEqDiff, Nat.reduceAdd, pc, ls, bs, and_self, Nat.reduceAdd, Nat.le_refl, pi]
set_option maxRecDepth 100000 in
theorem isub2_n (a1 a2 b1 b2 : List UInt8) (ha1 : a1.length < 13000) (ha2 : a2.length < 13000) (hb1 : b1.length < 13000) (hb2 : b2.length < 13000) : Meets Tryz.prog Gd 23 [ivP a1 a2, ivP b1 b2] (icorP (· - ·) a1 a2 b1 b2) := by
  refine meets_of_vc (Y := {}) (N := 11) (rs := [.cell 4 24, .tmp 5]) mix tk gd Tryz.func23 rfl (by kernel_rfl) rfl rfl (by simp) (by kernel_rfl) ?_
  simp (maxSteps := 10000000) only [↓sx, sx, ↓ty, ↓reduceIte, Nat.reduceEqDiff, Nat.reduceAdd, ls, Nat.reduceAdd, Nat.le_refl, pi]
  refine CallT.mk (cor_q (· - ·) a1 a2 b1 b2 ha1 ha2 hb1 hb2 fun _ _ x y hx hy _ => ⟨rop_q rsub_n x y (hx.mono (by omega)) (hy.mono (by omega)), (hx.sub hy).mono (by omega)⟩) ?_
  unfold icorP
  split
  · simp (maxSteps := 10000000) only [↓sx, sx, ↓ty, ↓reduceIte, Nat.reduceEqDiff, Nat.reduceAdd, pc, ls, bs, and_self, Nat.reduceAdd, Nat.le_refl, pi]
  · simp (maxSteps := 10000000) only [↓sx, sx, ↓ty, ↓reduceIte, Nat.reduceEqDiff, Nat.reduceAdd, pc, ls, bs, and_self, Nat.reduceAdd, Nat.le_refl, pi]
set_option maxRecDepth 100000 in
theorem imul2_n (a1 a2 b1 b2 : List UInt8) (ha1 : a1.length < 13000) (ha2 : a2.length < 13000) (hb1 : b1.length < 13000) (hb2 : b2.length < 13000) : Meets Tryz.prog Gd 25 [ivP a1 a2, ivP b1 b2] (icorP (· * ·) a1 a2 b1 b2) := by
  refine meets_of_vc (Y := {}) (N := 11) (rs := [.cell 4 24, .tmp 5]) mix tk gd Tryz.func25 rfl (by kernel_rfl) rfl rfl (by simp) (by kernel_rfl) ?_
  simp (maxSteps := 10000000) only [↓sx, sx, ↓ty, ↓reduceIte, Nat.reduceEqDiff, Nat.reduceAdd, ls, Nat.reduceAdd, Nat.le_refl, pi]
  refine CallT.mk (cor_q (· * ·) a1 a2 b1 b2 ha1 ha2 hb1 hb2 fun _ _ x y hx hy _ => ⟨rop_q rmul_n x y (hx.mono (by omega)) (hy.mono (by omega)), (hx.mul hy).mono (by omega)⟩) ?_
  unfold icorP
  split
  · simp (maxSteps := 10000000) only [↓sx, sx, ↓ty, ↓reduceIte, Nat.reduceEqDiff, Nat.reduceAdd, pc, ls, bs, and_self, Nat.reduceAdd, Nat.le_refl, pi]
  · simp (maxSteps := 10000000) only [↓sx, sx, ↓ty, ↓reduceIte, Nat.reduceEqDiff, Nat.reduceAdd, pc, ls, bs, and_self, Nat.reduceAdd, Nat.le_refl, pi]
theorem zhas_n (a b : List UInt8) (ha : a.length < 36000) (hb : b.length < 36000) : Meets Tryz.prog Gd 19 [ivP a b, strP [48]] (.val (.bool (zeroIn a b))) := by
  have := has_n a b [48] ha hb (by simp)
  rw [isRat_0, ratOf_0, Bool.and_true] at this
  exact this
set_option maxRecDepth 100000 in
set_option maxHeartbeats 4000000 in
theorem idiv2_n (a1 a2 b1 b2 : List UInt8) (ha1 : a1.length < 13000) (ha2 : a2.length < 13000) (hb1 : b1.length < 13000) (hb2 : b2.length < 13000) : Meets Tryz.prog Gd 27 [ivP a1 a2, ivP b1 b2] (idivP a1 a2 b1 b2) := by
  refine meets_of_vc (Y := {}) (N := 18) (rs := [.cell 4 24, .tmp 5]) mix tk gd Tryz.func27 rfl (by kernel_rfl) rfl rfl (by simp) (by kernel_rfl) ?_
  have main : (isIv a1 a2 && zeroIn b1 b2) = false → Meets Tryz.prog Gd 58 [.clo 45 [] [], ivP a1 a2, ivP b1 b2] (icorP (· / ·) a1 a2 b1 b2) := by
    intro h
    refine cor_q (· / ·) a1 a2 b1 b2 ha1 ha2 hb1 hb2 fun g1 g2 x y hx hy hy2 => ⟨rdiv_q x y (hx.mono (by omega)) (hy.mono (by omega)) ?_, (hx.div hy (by omega)).mono (by omega)⟩
    obtain ⟨_, _, g3⟩ := isIv_spec g2
    unfold zeroIn at h
    rw [g1, g2] at h
    simp only [Bool.true_and, Bool.and_eq_false_iff, Bool.not_eq_false', decide_eq_true_eq] at h
    rintro rfl
    rcases hy2 with h0 | h0 <;> rw [← h0] at h g3 <;> grind
  unfold idivP
  simp (maxSteps := 10000000) only [↓sx, sx, ↓ty, ↓reduceIte, Nat.reduceEqDiff, Nat.reduceAdd, ls, Nat.reduceAdd, Nat.le_refl, pi]
  refine CallT.mk (ivalid2_n a1 a2 (by omega) (by omega)) ?_
  cases h : isIv a1 a2 with
  | false =>
    rw [Bool.false_and]
    simp only [Bool.false_eq_true, if_false]
    simp (maxSteps := 10000000) only [↓sx, sx, ↓ty, ↓reduceIte, Nat.reduceEqDiff, Nat.reduceAdd, Nat.reduceLT, ls, Nat.reduceAdd, Nat.le_refl]
    refine CallT.mk (t := ⟨⟩) (main (by rw [h]; rfl)) ?_
    unfold icorP
    split
    · simp (maxSteps := 10000000) only [↓sx, sx, ↓ty, ↓reduceIte, Nat.reduceEqDiff, Nat.reduceAdd, pc, ls, bs, and_self, Nat.reduceAdd, Nat.le_refl, pi]
    · simp (maxSteps := 10000000) only [↓sx, sx, ↓ty, ↓reduceIte, Nat.reduceEqDiff, Nat.reduceAdd, pc, ls, bs, and_self, Nat.reduceAdd, Nat.le_refl, pi]
  | true =>
    rw [Bool.true_and]
    simp (maxSteps := 10000000) only [↓sx, sx, ↓ty, ↓reduceIte, Nat.reduceEqDiff, Nat.reduceAdd, Nat.reduceLT, ls, Nat.reduceAdd, Nat.le_refl]
    refine CallT.mk (t := ⟨⟩) (zhas_n b1 b2 (by omega) (by omega)) ?_
    cases hz : zeroIn b1 b2 with
    | false =>
      simp only [Bool.false_eq_true, if_false]
      simp (maxSteps := 10000000) only [↓sx, sx, ↓ty, ↓reduceIte, Nat.reduceEqDiff, Nat.reduceAdd, ls, Nat.reduceAdd, Nat.le_refl]
      refine CallT.mk (t := ⟨⟩) (main (by rw [hz, Bool.and_false])) ?_
      unfold icorP
      split
      · simp (maxSteps := 10000000) only [↓sx, sx, ↓ty, ↓reduceIte, Nat.reduceEqDiff, Nat.reduceAdd, pc, ls, bs, and_self, Nat.reduceAdd, Nat.le_refl, pi]
      · simp (maxSteps := 10000000) only [↓sx, sx, ↓ty, ↓reduceIte, Nat.reduceEqDiff, Nat.reduceAdd, pc, ls, bs, and_self, Nat.reduceAdd, Nat.le_refl, pi]
    | true =>
      simp only [if_true]
      simp (maxSteps := 10000000) only [↓sx, sx, ↓ty, ↓reduceIte, Nat.reduceEqDiff, Nat.reduceAdd, pc, ls, bs, and_self, Nat.reduceAdd, Nat.le_refl, pi]
end Go.Proofs.YtkfmneenhochhaaGreatDoor.S
namespace Gb
open Go Go.RowKit Go.Sx
def imeetP (a1 a2 b1 b2 : List UInt8) : PV := if isIv a1 a2 && isIv b1 b2 && !decide (ratOf a2 < ratOf b1) && !decide (ratOf b2 < ratOf a1) then .tup [ivQ ((endsQ (ratOf a1, ratOf a1) [ratOf b1]).2, (endsQ (ratOf a2, ratOf a2) [ratOf b2]).1), .val (.bool true)] else .tup [ivP [] [], .val (.bool false)]
def downQ (a : Rat) (n : Int) : Rat := ((a * n).floor : Rat) / n
def iroundP (a1 a2 : List UInt8) (n : Int) : PV := if isIv a1 a2 then (if n < 1 ∨ n > 1000000000 then .tup [ivP [] [], iP 2] else .tup [ivQ (downQ (ratOf a1) n, -downQ (-ratOf a2) n), iP 0]) else .tup [ivP [] [], iP 1]
theorem rT_int (z : Int) : rT (z : Rat) = iD z := by unfold rT; rw [Rat.den_intCast, if_pos rfl, Rat.num_intCast]
theorem Lw_floor {x : Rat} {k : Nat} (h : Sz k x) : Lw x.floor.natAbs ≤ k + 2 := by
  have := h.1
  rw [Rat.floor_def]
  have := Lw_ediv x.num (x.den : Int) (by have := x.den_nz; omega)
  omega
theorem downQ_sz {a : Rat} {n : Int} (ha : Sz 400 a) (h1 : 1 ≤ n) (h2 : n ≤ 1000000000) : Sz 1604 (downQ a n) := by
  have hn : Lw n.natAbs ≤ 2 := Lw_le (by show n.natAbs < 1000000000 ^ 2; omega)
  have sn : Sz 2 (n : Rat) := Sz.int hn (by omega)
  have sm := ha.mul (sn.mono (m := 400) (by omega))
  have sf : Sz 802 (((a * n).floor : Int) : Rat) := Sz.int (Lw_floor sm) (by omega)
  exact (sf.div (sn.mono (by omega)) (by omega))
end Gb
namespace Go.Proofs.YtkfmneenhochhaaGreatDoor.S
open Go Go.Sx Go.RowKit Gb Go.Shelf
set_option maxRecDepth 100000 in
set_option maxHeartbeats 4000000 in
theorem isq_n (a1 a2 : List UInt8) (ha1 : a1.length < 13000) (ha2 : a2.length < 13000) : Meets Tryz.prog Gd 29 [ivP a1 a2] (isqP a1 a2) := by
  refine meets_of_vc (Y := {}) (N := 38) (rs := [.cell 2 24, .tmp 3]) mix tk gd Tryz.func29 rfl (by kernel_rfl) rfl rfl (by simp) (by kernel_rfl) ?_
  unfold isqP
  simp (maxSteps := 10000000) only [↓sx, sx, ↓ty, ↓reduceIte, Nat.reduceEqDiff, Nat.reduceAdd, ls, Nat.reduceAdd, Nat.le_refl, pi]
  refine CallT.mk (ivalid2_n a1 a2 (by omega) (by omega)) ?_
  cases h : isIv a1 a2 with
  | false =>
    simp only [Bool.false_eq_true, if_false]
    simp (maxSteps := 10000000) only [↓sx, sx, ↓ty, ↓reduceIte, Nat.reduceEqDiff, Nat.reduceAdd, pc, ls, bs, and_self, Nat.reduceAdd, Nat.le_refl, pi]
  | true =>
    simp only [if_true]
    obtain ⟨v1, v2, v3⟩ := isIv_spec h
    have hz := zhas_n a1 a2 (by omega) (by omega)
    obtain ⟨a1, rfl, sa1⟩ := rT_of v1
    obtain ⟨a2, rfl, sa2⟩ := rT_of v2
    rw [ratOf_rT, ratOf_rT]
    have sa1 := sa1.mono (m := 1500) (by omega)
    have sa2 := sa2.mono (m := 1500) (by omega)
    simp (maxSteps := 10000000) only [↓sx, sx, ↓ty, ↓reduceIte, Nat.reduceEqDiff, Nat.reduceAdd, ne_eq, not_false_eq_true, ls, Nat.reduceAdd]
    refine CallT.mk (rop_q rmul_n a1 a1 (sa1.mono (by omega)) (sa1.mono (by omega))) ?_
    simp (maxSteps := 10000000) only [↓sx, sx, ↓ty, ↓reduceIte, Nat.reduceEqDiff, Nat.reduceAdd, ne_eq, not_false_eq_true, pc, ls, Nat.reduceAdd]
    refine CallT.mk (rop_q rmul_n a2 a2 (sa2.mono (by omega)) (sa2.mono (by omega))) ?_
    simp (maxSteps := 10000000) only [↓sx, sx, ↓ty, ↓reduceIte, Nat.reduceEqDiff, Nat.reduceAdd, pc, ls, Nat.reduceAdd, Nat.le_refl]
    refine CallT.mk hz ?_
    cases hz2 : zeroIn (rT a1) (rT a2) with
    | false =>
      simp only [Bool.false_eq_true, if_false]
      simp (maxSteps := 10000000) only [↓sx, sx, ↓ty, ↓reduceIte, Nat.reduceEqDiff, Nat.reduceAdd, Nat.reduceLeDiff, ne_eq, not_false_eq_true, ls, and_self, Nat.reduceAdd, Nat.le_refl]
      refine CallT.mk (ends_n (a1 * a1) [a2 * a2] ((sa1.mul sa1).mono (by omega)) (by simp [(sa2.mul sa2).mono (m := 4000) (by omega)]) (by simp)) ?_
      simp (maxSteps := 10000000) only [↓sx, sx, ↓ty, ↓reduceIte, Nat.reduceEqDiff, Nat.reduceAdd, pc, ls, bs, and_self, Nat.reduceAdd, Nat.le_refl, pi]
    | true =>
      simp only [if_true]
      simp (maxSteps := 10000000) only [↓sx, sx, ↓ty, ↓reduceIte, Nat.reduceEqDiff, Nat.reduceAdd, Nat.reduceLeDiff, ne_eq, not_false_eq_true, ls, and_self, Nat.reduceAdd, Nat.le_refl]
      refine CallT.to (ends_n 0 [a1 * a1, a2 * a2] (Sz0 _ (by omega)) (by simp [(sa2.mul sa2).mono (m := 4000) (by omega), (sa1.mul sa1).mono (m := 4000) (by omega)]) (by simp)) (by rw [rtP_0]; rfl) ?_
      simp (maxSteps := 10000000) only [↓sx, sx, ↓ty, ↓reduceIte, Nat.reduceEqDiff, Nat.reduceAdd, pc, ls, bs, and_self, Nat.reduceAdd, Nat.le_refl, pi]
set_option maxRecDepth 100000 in
set_option maxHeartbeats 4000000 in
theorem imeet_n (a1 a2 b1 b2 : List UInt8) (ha1 : a1.length < 13000) (ha2 : a2.length < 13000) (hb1 : b1.length < 13000) (hb2 : b2.length < 13000) : Meets Tryz.prog Gd 31 [ivP a1 a2, ivP b1 b2] (imeetP a1 a2 b1 b2) := by
  refine meets_of_vc (Y := {}) (N := 44) (rs := [.cell 4 24, .tmp 5]) mix tk gd Tryz.func31 rfl (by kernel_rfl) rfl rfl (by simp) (by kernel_rfl) ?_
  unfold imeetP
  simp (maxSteps := 10000000) only [↓sx, sx, ↓ty, ↓reduceIte, Nat.reduceEqDiff, Nat.reduceAdd, ls, Nat.reduceAdd, Nat.le_refl, pi]
  refine CallT.mk (ivalid2_n a1 a2 (by omega) (by omega)) ?_
  cases h1 : isIv a1 a2 with
  | false =>
    simp only [Bool.false_and, Bool.false_eq_true, if_false]
    simp (maxSteps := 10000000) only [↓sx, sx, ↓ty, ↓reduceIte, Nat.reduceEqDiff, Nat.reduceAdd, Nat.reduceLT, ls, bs, and_self, Nat.reduceAdd, Nat.le_refl, pi]
  | true =>
    simp only [Bool.true_and]
    simp (maxSteps := 10000000) only [↓sx, sx, ↓ty, ↓reduceIte, Nat.reduceEqDiff, Nat.reduceAdd, Nat.reduceLT, ls, Nat.reduceAdd, Nat.le_refl]
    refine CallT.mk (ivalid2_n b1 b2 (by omega) (by omega)) ?_
    cases h2 : isIv b1 b2 with
    | false =>
      simp only [Bool.false_and, Bool.false_eq_true, if_false]
      simp (maxSteps := 10000000) only [↓sx, sx, ↓ty, ↓reduceIte, Nat.reduceEqDiff, Nat.reduceAdd, Nat.reduceLT, ls, bs, and_self, Nat.reduceAdd, Nat.le_refl, pi]
    | true =>
      simp only [Bool.true_and]
      obtain ⟨v1, v2, v3⟩ := isIv_spec h1
      obtain ⟨v4, v5, v6⟩ := isIv_spec h2
      obtain ⟨a1, rfl, sa1⟩ := rT_of v1
      obtain ⟨a2, rfl, sa2⟩ := rT_of v2
      obtain ⟨b1, rfl, sb1⟩ := rT_of v4
      obtain ⟨b2, rfl, sb2⟩ := rT_of v5
      rw [ratOf_rT, ratOf_rT, ratOf_rT, ratOf_rT]
      have sa1 := sa1.mono (m := 4000) (by omega)
      have sa2 := sa2.mono (m := 4000) (by omega)
      have sb1 := sb1.mono (m := 4000) (by omega)
      have sb2 := sb2.mono (m := 4000) (by omega)
      simp (maxSteps := 10000000) only [↓sx, sx, ↓ty, ↓reduceIte, Nat.reduceEqDiff, Nat.reduceAdd, Nat.reduceLT, ne_eq, not_false_eq_true, ls, Nat.reduceAdd]
      refine CallT.mk (t := ⟨⟩) (less_q a2 b1 sa2 sb1) ?_
      by_cases c1 : a2 < b1
      · simp only [c1, decide_true, Bool.not_true, Bool.false_and, Bool.false_eq_true, if_false]
        simp (maxSteps := 10000000) only [↓sx, sx, ↓ty, ↓reduceIte, Nat.reduceEqDiff, Nat.reduceAdd, Nat.reduceLT, ls, bs, and_self, Nat.reduceAdd, Nat.le_refl, pi]
      · simp only [c1, decide_false, Bool.not_false, Bool.true_and]
        simp (maxSteps := 10000000) only [↓sx, sx, ↓ty, ↓reduceIte, Nat.reduceEqDiff, Nat.reduceAdd, Nat.reduceLT, ne_eq, not_false_eq_true, ls, Nat.reduceAdd]
        refine CallT.mk (t := ⟨⟩) (less_q b2 a1 sb2 sa1) ?_
        by_cases c2 : b2 < a1
        · simp only [c2, decide_true, Bool.not_true, Bool.false_eq_true, if_false]
          simp (maxSteps := 10000000) only [↓sx, sx, ↓ty, ↓reduceIte, Nat.reduceEqDiff, Nat.reduceAdd, ls, bs, and_self, Nat.reduceAdd, Nat.le_refl, pi]
        · simp only [c2, decide_false, Bool.not_false, if_true]
          simp (maxSteps := 10000000) only [↓sx, sx, ↓ty, ↓reduceIte, Nat.reduceEqDiff, Nat.reduceAdd, Nat.reduceLeDiff, ne_eq, not_false_eq_true, ls, and_self, Nat.reduceAdd, Nat.le_refl]
          refine CallT.mk (ends_n a1 [b1] sa1 (by simp [sb1]) (by simp)) ?_
          simp (maxSteps := 10000000) only [↓sx, sx, ↓ty, ↓reduceIte, Nat.reduceEqDiff, Nat.reduceAdd, Nat.reduceLeDiff, ne_eq, not_false_eq_true, ls, and_self, Nat.reduceAdd, Nat.le_refl, pi]
          refine CallT.mk (ends_n a2 [b2] sa2 (by simp [sb2]) (by simp)) ?_
          simp (maxSteps := 10000000) only [↓sx, sx, ↓ty, ↓reduceIte, Nat.reduceEqDiff, Nat.reduceAdd, Nat.reduceLeDiff, ls, bs, and_self, Nat.reduceAdd, Nat.le_refl, pi]
set_option maxRecDepth 100000 in
theorem down_q (a : Rat) (n : Int) (ha : Sz 400 a) (h1 : 1 ≤ n) (h2 : n ≤ 1000000000) : Meets Tryz.prog Gd 73 [rtP a, siP n] (rtP (downQ a n)) := by
  have hn : Lw n.natAbs ≤ 2 := Lw_le (by show n.natAbs < 1000000000 ^ 2; omega)
  have sn : Sz 2 (n : Rat) := Sz.int hn (by omega)
  have nt : siP n = rtP (n : Rat) := by unfold siP rtP; rw [rT_int]
  have n0 : (n : Rat) ≠ 0 := by rw [ne_eq, Rat.intCast_eq_zero_iff]; omega
  have sm := ha.mul (sn.mono (m := 400) (by omega))
  have lf := Lw_floor sm
  have sf : Sz 802 (((a * n).floor : Int) : Rat) := Sz.int lf (by omega)
  refine meets_of_vc (Y := {}) (N := 29) (rs := [.tmp 4]) mix tk gd Tryz.func73 rfl (by kernel_rfl) rfl rfl (by simp) (by kernel_rfl) ?_
  rw [nt]
  simp (maxSteps := 10000000) only [↓sx, sx, ↓reduceIte, Nat.reduceEqDiff, pc]
  refine CallT.mk (rop_q rmul_n a n (ha.mono (by omega)) (sn.mono (by omega))) ?_
  simp (maxSteps := 10000000) only [↓sx, sx, ↓reduceIte, Nat.reduceEqDiff, pc]
  have fl := rfloor_n (rT (a * n)) (by have := rT_len sm; omega)
  unfold rfloorP at fl
  rw [isRat_rT, if_pos rfl, ratOf_rT] at fl
  refine CallT.mk fl ?_
  have ft : siP (a * n).floor = rtP (((a * n).floor : Int) : Rat) := by unfold siP rtP; rw [rT_int]
  rw [ft]
  simp (maxSteps := 10000000) only [↓sx, sx, ↓reduceIte, Nat.reduceEqDiff, pc]
  refine CallT.mk (rdiv_q _ n (sf.mono (by omega)) (sn.mono (by omega)) n0) ?_
  simp (maxSteps := 10000000) only [↓sx, sx, ↓reduceIte, Nat.reduceEqDiff, pc]
  rfl
set_option maxRecDepth 100000 in
theorem minus_q (a : Rat) (ha : Sz 4000 a) : Meets Tryz.prog Gd 72 [rtP a] (rtP (-a)) := by
  refine meets_of_vc (Y := {}) (N := 11) (rs := [.tmp 2]) mix tk gd Tryz.func72 rfl (by kernel_rfl) rfl rfl (by simp) (by kernel_rfl) ?_
  simp (maxSteps := 10000000) only [↓sx, sx, ↓reduceIte, Nat.reduceEqDiff, pc]
  refine CallT.to (rop_q rsub_n 0 a (Sz0 _ (by omega)) ha) (by rw [rtP_0]; rfl) ?_
  rw [show (0 : Rat) - a = -a by grind]
  simp (maxSteps := 10000000) only [↓sx, sx, ↓reduceIte, Nat.reduceEqDiff, pc]
theorem itoa_n (z : Int) (h1 : -9223372036854775808 ≤ z) (h2 : z ≤ 9223372036854775807) : Meets Tryz.prog Gd 71 [iP z] (siP z) := by
  refine meets_val [.int .i64 z] (.string ⟨(iD z).toArray⟩) (enters_of Tryz.func71 (by kernel_rfl) rfl) ?_ ?_
  · intro B w
    simp [siP_c, RepP]
  · intro w hw
    refine (Tryz.strconv_Itoa z h1 h2 w hw).mono ?_
    rintro e w' ⟨rfl, k, os, rfl⟩
    rw [itoa_iD]
    exact ⟨rfl, Lib.below_grow _ w (Nat.le_refl _) k os⟩
set_option maxRecDepth 100000 in
set_option maxHeartbeats 4000000 in
theorem iround_n (a1 a2 : List UInt8) (n : Int) (ha1 : a1.length < 3500) (ha2 : a2.length < 3500) : Meets Tryz.prog Gd 32 [ivP a1 a2, iP n] (iroundP a1 a2 n) := by
  refine meets_of_vc (Y := {}) (N := 36) (rs := [.cell 4 24, .tmp 5]) mix tk gd Tryz.func32 rfl (by kernel_rfl) rfl rfl (by simp) (by kernel_rfl) ?_
  unfold iroundP
  simp (maxSteps := 10000000) only [↓sx, sx, ↓ty, ↓reduceIte, Nat.reduceEqDiff, Nat.reduceAdd, ls, Nat.reduceAdd, Nat.le_refl, pi]
  refine CallT.mk (ivalid2_n a1 a2 (by omega) (by omega)) ?_
  cases h : isIv a1 a2 with
  | false =>
    simp only [Bool.false_eq_true, if_false]
    simp (maxSteps := 10000000) only [↓sx, sx, ↓ty, ↓reduceIte, Nat.reduceEqDiff, Nat.reduceAdd, pc, ls, bs, and_self, Nat.reduceAdd, Nat.le_refl, pi]
  | true =>
    simp only [if_true]
    obtain ⟨v1, v2, v3⟩ := isIv_spec h
    obtain ⟨a1, rfl, sa1⟩ := rT_of v1
    obtain ⟨a2, rfl, sa2⟩ := rT_of v2
    rw [ratOf_rT, ratOf_rT]
    have sa1 := sa1.mono (m := 400) (by omega)
    have sa2 := sa2.mono (m := 400) (by omega)
    by_cases c1 : n < 1
    · rw [if_pos (.inl c1)]
      have c1 : decide (n < 1) = true := by simp [c1]
      simp (maxSteps := 10000000) only [↓sx, sx, ↓ty, ↓reduceIte, Nat.reduceEqDiff, Nat.reduceAdd, Nat.reduceLT, pc, ls, bs, and_self, Nat.reduceAdd, Nat.le_refl, pi, c1]
    · by_cases c2 : n > 1000000000
      · rw [if_pos (.inr c2)]
        have c1 : decide (n < 1) = false := by simp [c1]
        have c2 : decide (n > 1000000000) = true := by simp [c2]
        simp (maxSteps := 10000000) only [↓sx, sx, ↓ty, ↓reduceIte, Nat.reduceEqDiff, Nat.reduceAdd, Nat.reduceLT, pc, ls, bs, and_self, Nat.reduceAdd, Nat.le_refl, pi, c1, c2]
      · rw [if_neg (by omega)]
        have d1 : decide (n < 1) = false := by simp [c1]
        have d2 : decide (n > 1000000000) = false := by simp [c2]
        simp (maxSteps := 10000000) only [↓sx, sx, ↓reduceIte, Nat.reduceEqDiff, Nat.reduceLT, pc, d1, d2]
        refine CallT.mk (itoa_n n (by omega) (by omega)) ?_
        simp (maxSteps := 10000000) only [↓sx, sx, ↓ty, ↓reduceIte, Nat.reduceEqDiff, Nat.reduceAdd, ne_eq, not_false_eq_true, pc, ls, Nat.reduceAdd]
        refine CallT.mk (down_q a1 n sa1 (by omega) (by omega)) ?_
        simp (maxSteps := 10000000) only [↓sx, sx, ↓ty, ↓reduceIte, Nat.reduceEqDiff, Nat.reduceAdd, ne_eq, not_false_eq_true, ls, Nat.reduceAdd]
        refine CallT.mk (minus_q a2 (sa2.mono (by omega))) ?_
        simp (maxSteps := 10000000) only [↓sx, sx, ↓reduceIte, Nat.reduceEqDiff, pc]
        refine CallT.mk (down_q (-a2) n sa2.neg (by omega) (by omega)) ?_
        simp (maxSteps := 10000000) only [↓sx, sx, ↓reduceIte, Nat.reduceEqDiff, pc]
        refine CallT.mk (minus_q (downQ (-a2) n) ((downQ_sz sa2.neg (by omega) (by omega)).mono (by omega))) ?_
        simp (maxSteps := 10000000) only [↓sx, sx, ↓ty, ↓reduceIte, Nat.reduceEqDiff, Nat.reduceAdd, Nat.reduceLeDiff, pc, ls, bs, and_self, Nat.reduceAdd, Nat.le_refl, pi]
end Go.Proofs.YtkfmneenhochhaaGreatDoor.S
namespace Gb
open Go Go.RowKit Go.Sx
abbrev TT2 := List UInt8 × List UInt8
def cell2 (p : TT2) : List PV := [.val (.string ⟨p.1.toArray⟩), .val (.string ⟨p.2.toArray⟩)]
def flat (l : List TT2) : List PV := l.flatMap cell2
def ratsOf (l : List TT2) : List Rat := l.flatMap fun p => [ratOf p.1, ratOf p.2]
def hullQ (l : List TT2) : Rat × Rat := match ratsOf l with | [] => (0, 0) | x :: xs => endsQ (x, x) xs
def hullP (l : List TT2) : PV := if l.length = 0 then .tup [ivP [] [], iP 9] else if 1024 < l.length then .tup [ivP [] [], iP 8] else if l.all (fun p => isIv p.1 p.2) then .tup [ivQ (hullQ l), iP 0] else .tup [ivP [] [], iP 1]
theorem flat_cons (p : TT2) (l : List TT2) : flat (p :: l) = .val (.string ⟨p.1.toArray⟩) :: .val (.string ⟨p.2.toArray⟩) :: flat l := rfl
theorem flat_len : ∀ l, (flat l).length = l.length * 2
  | [] => rfl
  | p :: l => by rw [flat_cons, List.length_cons, List.length_cons, flat_len l, List.length_cons]; omega
theorem flat_drop : ∀ (l : List TT2) (i : Nat) (h : i < l.length), (flat l).drop (i * 2) = .val (.string ⟨(l.getD i ([], [])).1.toArray⟩) :: .val (.string ⟨(l.getD i ([], [])).2.toArray⟩) :: flat (l.drop (i + 1))
  | p :: l, 0, _ => rfl
  | p :: l, i + 1, h => by
    rw [flat_cons, show (i + 1) * 2 = i * 2 + 2 by omega]
    exact flat_drop l i (by simp at h; omega)
theorem flat_append (l m : List TT2) : flat (l ++ m) = flat l ++ flat m := List.flatMap_append
theorem take_snoc2 {l : List TT2} {i : Nat} (h : i < l.length) : l.take (i + 1) = l.take i ++ [l.getD i ([], [])] := by
  rw [List.take_add_one, List.getD_eq_getElem?_getD, List.getElem?_eq_getElem h]; rfl
theorem flat_rats : ∀ {l : List TT2}, (∀ p ∈ l, isIv p.1 p.2 = true) → flat l = (ratsOf l).map rtP
  | [], _ => rfl
  | p :: l, h => by
    obtain ⟨h1, h2, _⟩ := isIv_spec (h p (List.mem_cons_self ..))
    rw [flat_cons, flat_rats fun x hx => h x (List.mem_cons_of_mem _ hx)]
    show _ = rtP (ratOf p.1) :: rtP (ratOf p.2) :: (ratsOf l).map rtP
    unfold rtP strP
    rw [rT_ratOf h1, rT_ratOf h2]
theorem rats_sz {k : Nat} : ∀ {l : List TT2}, (∀ p ∈ l, Sz k (ratOf p.1) ∧ Sz k (ratOf p.2)) → ∀ x ∈ ratsOf l, Sz k x
  | [], _, x, hx => by simp [ratsOf] at hx
  | p :: l, h, x, hx => by
    have hp := h p (List.mem_cons_self ..)
    rcases List.mem_append.1 (show x ∈ [ratOf p.1, ratOf p.2] ++ ratsOf l from hx) with hx | hx
    · simp at hx; rcases hx with rfl | rfl
      · exact hp.1
      · exact hp.2
    · exact rats_sz (fun q hq => h q (List.mem_cons_of_mem _ hq)) x hx
theorem rats_len : ∀ l : List TT2, (ratsOf l).length = l.length * 2
  | [] => rfl
  | p :: l => by show ([ratOf p.1, ratOf p.2] ++ ratsOf l).length = _; rw [List.length_append, rats_len l]; simp; omega
end Gb
namespace Go.Proofs.YtkfmneenhochhaaGreatDoor.S
open Go Go.Sx Go.RowKit Gb Go.Shelf
set_option maxRecDepth 100000 in
set_option maxHeartbeats 4000000 in
theorem hull_n (l : List TT2) (hl : l.length < 1000000) (hlen : ∀ p ∈ l, p.1.length < 13000 ∧ p.2.length < 13000) : Meets Tryz.prog Gd 35 [.sl l.length (flat l)] (hullP l) := by
  refine meets_of_vc (Y := {}) (N := 37) (rs := [.cell 2 24, .tmp 3]) mix tk gd Tryz.func35 rfl (by kernel_rfl) rfl rfl (by simp) (by kernel_rfl) ?_
  unfold hullP
  by_cases c0 : l.length = 0
  · rw [if_pos c0]
    have d0 : ((l.length : Int) == 0) = true := by simp [c0]
    simp (maxSteps := 10000000) only [↓sx, sx, ↓ty, ↓reduceIte, Nat.reduceEqDiff, Nat.reduceAdd, pc, ls, bs, and_self, Nat.reduceAdd, Nat.le_refl, pi, d0]
  · rw [if_neg c0]
    have d0 : ((l.length : Int) == 0) = false := by rw [beq_eq_false_iff_ne]; omega
    by_cases c1 : 1024 < l.length
    · rw [if_pos c1]
      have d1 : decide ((l.length : Int) > 1024) = true := by simp; omega
      simp (maxSteps := 10000000) only [↓sx, sx, ↓ty, ↓reduceIte, Nat.reduceEqDiff, Nat.reduceAdd, pc, ls, bs, and_self, Nat.reduceAdd, Nat.le_refl, pi, d0, d1]
    · rw [if_neg c1]
      have d1 : decide ((l.length : Int) > 1024) = false := by simp; omega
      simp (maxSteps := 10000000) only [↓sx, sx, ↓ty, ↓reduceIte, Nat.reduceEqDiff, d0, d1]
      refine loopK_of (fun i : Nat => [(2, .box 2 0), (4, .orow 4), (17, .p (.sl l.length (flat l))), (18, .p (.val (.int .i64 (l.length : Nat)))), (19, .p (.val (.int .i64 (i : Nat))))]) (fun i => [(2, (24, [e0, e0]))]) (fun i => [(4, ⟨22, 1, i * 2, flat (l.take i), false⟩)]) (fun i => i ≤ l.length ∧ ∀ p ∈ l.take i, isIv p.1 p.2 = true) (fun i => l.length - i) 0 ⟨Nat.zero_le _, by simp⟩ ?_ ?_
      · simp (maxSteps := 10000000) only [isE_nil, is_cons, bo_p, bo_box, bo_orow, any_cons', all_cons', all_nil', Bool.true_or, ↓sx, sx, ↓reduceIte, Nat.reduceEqDiff]
        trivial
      · rintro i ⟨hi, hv⟩
        by_cases hil : i < l.length
        · have e1 : decide ((i : Int) < (l.length : Int)) = true := by simp; omega
          have hd := flat_drop l i hil
          have hp := hlen (l.getD i ([], [])) (by rw [List.getD_eq_getElem?_getD, List.getElem?_eq_getElem hil]; exact List.getElem_mem hil)
          have ht := take_snoc2 hil
          have hfl := flat_len (l.take i)
          rw [List.length_take, Nat.min_eq_left hi] at hfl
          simp (maxSteps := 10000000) only [↓sx, sx, ↓ty, ↓reduceIte, Nat.reduceEqDiff, Nat.reduceAdd, Nat.reduceLeDiff, ls, bs, and_self, Nat.reduceAdd, Nat.le_refl, e1, hd, e0]
          refine ⟨⟨by omega, hil, by rw [flat_len]; omega⟩, ?_⟩
          refine CallT.mk (ivalid2_n (l.getD i ([], [])).1 (l.getD i ([], [])).2 (by omega) (by omega)) ?_
          cases hq : isIv (l.getD i ([], [])).1 (l.getD i ([], [])).2 with
          | false =>
            have hall : (l.all fun p => isIv p.1 p.2) = false := by
              rw [List.all_eq_false]
              refine ⟨l.getD i ([], []), ?_, by rw [hq]; simp⟩
              rw [List.getD_eq_getElem?_getD, List.getElem?_eq_getElem hil]; exact List.getElem_mem hil
            rw [hall]
            simp only [Bool.false_eq_true, if_false]
            simp (maxSteps := 10000000) only [↓sx, sx, ↓ty, ↓reduceIte, Nat.reduceEqDiff, Nat.reduceAdd, pc, ls, bs, and_self, Nat.reduceAdd, Nat.le_refl, pi]
          | true =>
            simp (maxSteps := 10000000) only [↓sx, sx, ↓ty, ↓reduceIte, Nat.reduceEqDiff, Nat.reduceAdd, Nat.reduceLeDiff, Nat.reduceLT, ne_eq, not_false_eq_true, ls, bs, and_self, Nat.reduceAdd, Nat.le_refl]
            refine ⟨⟨by unfold maxLen; omega, by omega⟩, NextK.mk (i + 1) (by omega) ⟨by omega, ?_⟩ ?_⟩
            · intro p hp
              rw [ht] at hp
              rcases List.mem_append.1 hp with hp | hp
              · exact hv p hp
              · rw [List.mem_singleton] at hp
                rw [hp]; exact hq
            · simp (maxSteps := 10000000) only [isE_nil, is_cons, bo_p, bo_box, bo_orow, any_cons', all_cons', all_nil', Bool.true_or, ↓sx, sx, ↓reduceIte, Nat.reduceEqDiff]
              rw [ht, flat_append, i64_id (by omega) (by omega)]
              simp [flat, cell2, e0]
              omega
        · obtain rfl : i = l.length := by omega
          rw [List.take_length] at hv ⊢
          have e1 : decide ((l.length : Int) < (l.length : Int)) = false := by simp
          have hall : (l.all fun p => isIv p.1 p.2) = true := by rw [List.all_eq_true]; exact hv
          rw [hall, if_pos rfl]
          simp (maxSteps := 10000000) only [↓sx, sx, ↓reduceIte, Nat.reduceEqDiff, e1, e0]
          have hsz := rats_sz (k := 4000) (l := l) fun p hp => by
            obtain ⟨h1, h2, _⟩ := isIv_spec (hv p hp)
            have := hlen p hp
            exact ⟨(Sz.text h1).mono (by omega), (Sz.text h2).mono (by omega)⟩
          have hln := rats_len l
          have hfr := flat_rats hv
          unfold hullQ
          cases hr : ratsOf l with
          | nil => rw [hr] at hln; simp at hln; omega
          | cons x xs =>
            rw [hr] at hfr hsz hln
            rw [List.length_cons] at hln
            refine CallT.to (ends_n x xs (hsz x (List.mem_cons_self ..)) (fun y hy => hsz y (List.mem_cons_of_mem _ hy)) (by omega)) (by rw [hfr, ← hln]; rfl) ?_
            simp (maxSteps := 10000000) only [↓sx, sx, ↓ty, ↓reduceIte, Nat.reduceEqDiff, Nat.reduceAdd, pc, ls, bs, and_self, Nat.reduceAdd, Nat.le_refl, pi]
end Go.Proofs.YtkfmneenhochhaaGreatDoor.S
namespace Gb
open Go Go.RowKit Go.Sx
def iqP (p : Rat × Rat) : PV := .agg [.val (.bool (decide (p.1.num < 0))), nP p.1.num.natAbs, nP p.1.den, .val (.bool (decide (p.2.num < 0))), nP p.2.num.natAbs, nP p.2.den]
theorem pj : ∀ p : Rat × Rat, iqP p = .agg [.val (.bool (decide (p.1.num < 0))), .sl (wl p.1.num.natAbs).length ((wl p.1.num.natAbs).map wv), .sl (wl p.1.den).length ((wl p.1.den).map wv),
  .val (.bool (decide (p.2.num < 0))), .sl (wl p.2.num.natAbs).length ((wl p.2.num.natAbs).map wv), .sl (wl p.2.den).length ((wl p.2.den).map wv)] := fun _ => rfl
def leastQ (x y : Rat) : Rat := if x ≤ y then x else y
def mostQ (x y : Rat) : Rat := if y ≤ x then x else y
def joinQ (p q : Rat × Rat) : Rat × Rat := (leastQ p.1 q.1, mostQ p.2 q.2)
def scaleQ (p : Rat × Rat) (x : Rat) : Rat × Rat := joinQ (p.1 * x, p.1 * x) (p.2 * x, p.2 * x)
def timesQ (p q : Rat × Rat) : Rat × Rat := joinQ (scaleQ p q.1) (scaleQ p q.2)
def overQ (p q : Rat × Rat) : Rat × Rat := timesQ p (q.2⁻¹, q.1⁻¹)
def SzI (k : Nat) (p : Rat × Rat) : Prop := Sz k p.1 ∧ Sz k p.2
theorem SzI.mono {k m : Nat} {p : Rat × Rat} (h : SzI k p) (hm : k ≤ m) : SzI m p := ⟨h.1.mono hm, h.2.mono hm⟩
theorem leastQ_sz {k : Nat} {x y : Rat} (hx : Sz k x) (hy : Sz k y) : Sz k (leastQ x y) := by unfold leastQ; split <;> assumption
theorem mostQ_sz {k : Nat} {x y : Rat} (hx : Sz k x) (hy : Sz k y) : Sz k (mostQ x y) := by unfold mostQ; split <;> assumption
theorem joinQ_sz {k : Nat} {p q : Rat × Rat} (hp : SzI k p) (hq : SzI k q) : SzI k (joinQ p q) := ⟨leastQ_sz hp.1 hq.1, mostQ_sz hp.2 hq.2⟩
theorem scaleQ_sz {k : Nat} {p : Rat × Rat} {x : Rat} (hp : SzI k p) (hx : Sz k x) : SzI (2 * k) (scaleQ p x) := joinQ_sz ⟨hp.1.mul hx, hp.1.mul hx⟩ ⟨hp.2.mul hx, hp.2.mul hx⟩
theorem timesQ_sz {k : Nat} {p q : Rat × Rat} (hp : SzI k p) (hq : SzI k q) : SzI (2 * k) (timesQ p q) := joinQ_sz (scaleQ_sz hp hq.1) (scaleQ_sz hp hq.2)
theorem overQ_sz {k : Nat} {p q : Rat × Rat} (hk : 1 ≤ k) (hp : SzI k p) (hq : SzI k q) : SzI (2 * k) (overQ p q) := timesQ_sz hp ⟨hq.2.inv hk, hq.1.inv hk⟩
def rd (a : List UInt8) : Rat := if isRat a then ratOf a else 0
theorem rd_sz {a : List UInt8} {k : Nat} (h : a.length ≤ 9 * k) : Sz (k + 1) (rd a) := by
  unfold rd
  split
  · rename_i h1; exact Sz.of h1 h
  · exact (Sz.int (z := 0) (by rw [Int.natAbs_zero, Lw_zero]; omega) (by omega))
end Gb
namespace Go.Proofs.YtkfmneenhochhaaGreatDoor.S
open Go Go.Sx Go.RowKit Gb Go.Shelf
theorem least_q (x y : Rat) (hx : Sz 40000 x) (hy : Sz 40000 y) : Meets Tryz.prog Gd 75 [qP x, qP y] (qP (leastQ x y)) := by
  have := least3_n gd x y hx hy
  simp only [le_sign] at this
  exact this
theorem most_q (x y : Rat) (hx : Sz 40000 x) (hy : Sz 40000 y) : Meets Tryz.prog Gd 74 [qP x, qP y] (qP (mostQ x y)) := by
  have := most3_n gd x y hx hy
  simp only [ge_sign] at this
  exact this
set_option maxRecDepth 100000 in
set_option maxHeartbeats 4000000 in
theorem from4_n (a b : List UInt8) (ha : a.length < 90000) (hb : b.length < 90000) : Meets Tryz.prog Gd 53 [ivP a b] (.tup [iqP (rd a, rd b), .val (.bool (isIv a b))]) := by
  refine meets_of_vc (Y := {}) (N := 33) (rs := [.cell 2 68, .tmp 3]) mix tk gd Tryz.func53 rfl (by kernel_rfl) rfl rfl (by simp) (by kernel_rfl) ?_
  simp (maxSteps := 10000000) only [↓sx, sx, ↓ty, ↓reduceIte, Nat.reduceEqDiff, Nat.reduceAdd, ne_eq, not_false_eq_true, ls, Nat.reduceAdd, pi]
  refine CallT.mk (from3_n gd a (by omega)) ?_
  simp (maxSteps := 10000000) only [↓sx, sx, ↓ty, ↓reduceIte, Nat.reduceEqDiff, Nat.reduceAdd, ne_eq, not_false_eq_true, pc, ls, bs, and_self, Nat.reduceAdd, Nat.le_refl]
  refine CallT.mk (from3_n gd b (by omega)) ?_
  unfold rd isIv
  cases h1 : isRat a with
  | false =>
    simp only [Bool.false_and, Bool.false_eq_true, if_false]
    simp (maxSteps := 10000000) only [↓sx, sx, ↓ty, ↓reduceIte, Nat.reduceEqDiff, Nat.reduceAdd, Nat.reduceLeDiff, Nat.reduceLT, pc, ls, bs, and_self, Nat.reduceAdd, Nat.le_refl, pj]
  | true =>
    cases h2 : isRat b with
    | false =>
      simp only [Bool.false_and, Bool.and_false, Bool.false_eq_true, if_false, if_true]
      simp (maxSteps := 10000000) only [↓sx, sx, ↓ty, ↓reduceIte, Nat.reduceEqDiff, Nat.reduceAdd, Nat.reduceLeDiff, Nat.reduceLT, pc, ls, bs, and_self, Nat.reduceAdd, Nat.le_refl, pj]
    | true =>
      simp only [Bool.true_and, if_true]
      simp (maxSteps := 10000000) only [↓sx, sx, ↓ty, ↓reduceIte, Nat.reduceEqDiff, Nat.reduceAdd, Nat.reduceLeDiff, Nat.reduceLT, pc, ls, bs, and_self, Nat.reduceAdd, Nat.le_refl]
      refine CallT.mk (t := ⟨⟩) (cmp3_n gd (ratOf a) (ratOf b) ((Sz.of (k := 10000) h1 (by omega)).mono (by omega)) ((Sz.of (k := 10000) h2 (by omega)).mono (by omega))) ?_
      simp (maxSteps := 10000000) only [↓sx, sx, ↓ty, ↓reduceIte, Nat.reduceEqDiff, Nat.reduceAdd, Nat.reduceLT, pc, ls, bs, and_self, Nat.reduceAdd, Nat.le_refl, pj, le_sign]
set_option maxRecDepth 100000 in
set_option maxHeartbeats 4000000 in
theorem to4_n (p : Rat × Rat) (hp : SzI 40000 p) : Meets Tryz.prog Gd 60 [iqP p] (ivQ p) := by
  refine meets_of_vc (Y := {}) (N := 10) (rs := [.cell 2 24]) mix tk gd Tryz.func60 rfl (by kernel_rfl) rfl rfl (by simp) (by kernel_rfl) ?_
  simp (maxSteps := 10000000) only [↓sx, sx, ↓ty, ↓reduceIte, Nat.reduceEqDiff, Nat.reduceAdd, Nat.reduceLeDiff, ne_eq, not_false_eq_true, ls, Nat.reduceAdd, pj]
  refine CallT.mk (t := ⟨⟩) (to3_n gd p.1 (hp.1.mono (by omega))) ?_
  simp (maxSteps := 10000000) only [↓sx, sx, ↓ty, ↓reduceIte, Nat.reduceEqDiff, Nat.reduceAdd, ne_eq, not_false_eq_true, ls, Nat.reduceAdd, Nat.le_refl]
  refine CallT.mk (t := ⟨⟩) (to3_n gd p.2 (hp.2.mono (by omega))) ?_
  simp (maxSteps := 10000000) only [↓sx, sx, ↓ty, ↓reduceIte, Nat.reduceEqDiff, Nat.reduceAdd, Nat.reduceLeDiff, pc, ls, bs, and_self, Nat.reduceAdd, Nat.le_refl, pi]
set_option maxRecDepth 100000 in
set_option maxHeartbeats 4000000 in
theorem just4_n (x : Rat) : Meets Tryz.prog Gd 68 [qP x] (iqP (x, x)) := by
  refine meets_of_vc (Y := {}) (N := 6) (rs := [.cell 2 68]) mix tk gd Tryz.func68 rfl (by kernel_rfl) rfl rfl (by simp) (by kernel_rfl) ?_
  simp (maxSteps := 10000000) only [↓sx, sx, ↓ty, ↓reduceIte, Nat.reduceEqDiff, Nat.reduceAdd, Nat.reduceLeDiff, pc, ls, bs, and_self, Nat.reduceAdd, Nat.le_refl, pj]
set_option maxRecDepth 100000 in
set_option maxHeartbeats 4000000 in
theorem plus4_n (p q : Rat × Rat) (hp : SzI 40000 p) (hq : SzI 40000 q) : Meets Tryz.prog Gd 61 [iqP p, iqP q] (iqP (p.1 + q.1, p.2 + q.2)) := by
  refine meets_of_vc (Y := {}) (N := 16) (rs := [.cell 4 68]) mix tk gd Tryz.func61 rfl (by kernel_rfl) rfl rfl (by simp) (by kernel_rfl) ?_
  simp (maxSteps := 10000000) only [↓sx, sx, ↓ty, ↓reduceIte, Nat.reduceEqDiff, Nat.reduceAdd, Nat.reduceLeDiff, ne_eq, not_false_eq_true, ls, Nat.reduceAdd, pj]
  refine CallT.mk (t := ⟨⟩) (add3_n gd p.1 q.1 hp.1 hq.1) ?_
  simp (maxSteps := 10000000) only [↓sx, sx, ↓ty, ↓reduceIte, Nat.reduceEqDiff, Nat.reduceAdd, ne_eq, not_false_eq_true, ls, Nat.reduceAdd, Nat.le_refl]
  refine CallT.mk (t := ⟨⟩) (add3_n gd p.2 q.2 hp.2 hq.2) ?_
  simp (maxSteps := 10000000) only [↓sx, sx, ↓ty, ↓reduceIte, Nat.reduceEqDiff, Nat.reduceAdd, Nat.reduceLeDiff, pc, ls, bs, and_self, Nat.reduceAdd, Nat.le_refl, pj]
set_option maxRecDepth 100000 in
set_option maxHeartbeats 4000000 in
theorem minus4_n (p q : Rat × Rat) (hp : SzI 40000 p) (hq : SzI 40000 q) : Meets Tryz.prog Gd 62 [iqP p, iqP q] (iqP (p.1 - q.2, p.2 - q.1)) := by
  refine meets_of_vc (Y := {}) (N := 16) (rs := [.cell 4 68]) mix tk gd Tryz.func62 rfl (by kernel_rfl) rfl rfl (by simp) (by kernel_rfl) ?_
  simp (maxSteps := 10000000) only [↓sx, sx, ↓ty, ↓reduceIte, Nat.reduceEqDiff, Nat.reduceAdd, Nat.reduceLeDiff, ne_eq, not_false_eq_true, ls, Nat.reduceAdd, Nat.le_refl, pj]
  refine CallT.mk (t := ⟨⟩) (sub3_n gd p.1 q.2 hp.1 hq.2) ?_
  simp (maxSteps := 10000000) only [↓sx, sx, ↓ty, ↓reduceIte, Nat.reduceEqDiff, Nat.reduceAdd, Nat.reduceLeDiff, ne_eq, not_false_eq_true, ls, Nat.reduceAdd, Nat.le_refl]
  refine CallT.mk (t := ⟨⟩) (sub3_n gd p.2 q.1 hp.2 hq.1) ?_
  simp (maxSteps := 10000000) only [↓sx, sx, ↓ty, ↓reduceIte, Nat.reduceEqDiff, Nat.reduceAdd, Nat.reduceLeDiff, pc, ls, bs, and_self, Nat.reduceAdd, Nat.le_refl, pj]
set_option maxRecDepth 100000 in
set_option maxHeartbeats 4000000 in
theorem join4_n (p q : Rat × Rat) (hp : SzI 40000 p) (hq : SzI 40000 q) : Meets Tryz.prog Gd 67 [iqP p, iqP q] (iqP (joinQ p q)) := by
  refine meets_of_vc (Y := {}) (N := 16) (rs := [.cell 4 68]) mix tk gd Tryz.func67 rfl (by kernel_rfl) rfl rfl (by simp) (by kernel_rfl) ?_
  simp (maxSteps := 10000000) only [↓sx, sx, ↓ty, ↓reduceIte, Nat.reduceEqDiff, Nat.reduceAdd, Nat.reduceLeDiff, ne_eq, not_false_eq_true, ls, Nat.reduceAdd, pj]
  refine CallT.mk (t := ⟨⟩) (least_q p.1 q.1 hp.1 hq.1) ?_
  simp (maxSteps := 10000000) only [↓sx, sx, ↓ty, ↓reduceIte, Nat.reduceEqDiff, Nat.reduceAdd, ne_eq, not_false_eq_true, ls, Nat.reduceAdd, Nat.le_refl]
  refine CallT.mk (t := ⟨⟩) (most_q p.2 q.2 hp.2 hq.2) ?_
  simp (maxSteps := 10000000) only [↓sx, sx, ↓ty, ↓reduceIte, Nat.reduceEqDiff, Nat.reduceAdd, Nat.reduceLeDiff, pc, ls, bs, and_self, Nat.reduceAdd, Nat.le_refl, pj, joinQ]
set_option maxRecDepth 100000 in
set_option maxHeartbeats 4000000 in
theorem scale4_n (p : Rat × Rat) (x : Rat) (hp : SzI 20000 p) (hx : Sz 20000 x) : Meets Tryz.prog Gd 103 [iqP p, qP x] (iqP (scaleQ p x)) := by
  refine meets_of_vc (Y := {}) (N := 16) (rs := [.cell 4 68]) mix tk gd Tryz.func103 rfl (by kernel_rfl) rfl rfl (by simp) (by kernel_rfl) ?_
  simp (maxSteps := 10000000) only [↓sx, sx, ↓ty, ↓reduceIte, Nat.reduceEqDiff, Nat.reduceAdd, Nat.reduceLeDiff, ne_eq, not_false_eq_true, pc, ls, Nat.reduceAdd, Nat.le_refl, pj]
  refine CallT.mk (t := ⟨⟩) (mul3_n gd p.1 x (hp.1.mono (by omega)) (hx.mono (by omega))) ?_
  simp (maxSteps := 10000000) only [↓sx, sx, ↓reduceIte, pc]
  refine CallT.mk (t := ⟨⟩) (just4_n (p.1 * x)) ?_
  simp (maxSteps := 10000000) only [↓sx, sx, ↓ty, ↓reduceIte, Nat.reduceEqDiff, Nat.reduceAdd, ne_eq, not_false_eq_true, ls, Nat.reduceAdd, Nat.le_refl]
  refine CallT.mk (t := ⟨⟩) (mul3_n gd p.2 x (hp.2.mono (by omega)) (hx.mono (by omega))) ?_
  simp (maxSteps := 10000000) only [↓sx, sx, ↓reduceIte, pc]
  refine CallT.mk (t := ⟨⟩) (just4_n (p.2 * x)) ?_
  simp (maxSteps := 10000000) only [↓sx, sx, ↓reduceIte, Nat.reduceEqDiff, pj]
  refine CallT.mk (t := ⟨⟩) (join4_n (p.1 * x, p.1 * x) (p.2 * x, p.2 * x) ⟨hp.1.mul hx, hp.1.mul hx⟩ ⟨hp.2.mul hx, hp.2.mul hx⟩) ?_
  simp (maxSteps := 10000000) only [↓sx, sx, ↓ty, ↓reduceIte, Nat.reduceEqDiff, Nat.reduceAdd, ls, bs, and_self, Nat.reduceAdd, Nat.le_refl, pj, scaleQ]
set_option maxRecDepth 100000 in
set_option maxHeartbeats 4000000 in
theorem times4_n (p q : Rat × Rat) (hp : SzI 20000 p) (hq : SzI 20000 q) : Meets Tryz.prog Gd 63 [iqP p, iqP q] (iqP (timesQ p q)) := by
  refine meets_of_vc (Y := {}) (N := 14) (rs := [.cell 4 68]) mix tk gd Tryz.func63 rfl (by kernel_rfl) rfl rfl (by simp) (by kernel_rfl) ?_
  simp (maxSteps := 10000000) only [↓sx, sx, ↓ty, ↓reduceIte, Nat.reduceEqDiff, Nat.reduceAdd, Nat.reduceLeDiff, ne_eq, not_false_eq_true, ls, Nat.reduceAdd, Nat.le_refl, pj]
  refine CallT.mk (t := ⟨⟩) (scale4_n p q.1 hp hq.1) ?_
  simp (maxSteps := 10000000) only [↓sx, sx, ↓ty, ↓reduceIte, Nat.reduceEqDiff, Nat.reduceAdd, ne_eq, not_false_eq_true, ls, Nat.reduceAdd, Nat.le_refl]
  refine CallT.mk (t := ⟨⟩) (scale4_n p q.2 hp hq.2) ?_
  simp (maxSteps := 10000000) only [↓sx, sx, ↓reduceIte, Nat.reduceEqDiff, pj]
  refine CallT.mk (t := ⟨⟩) (join4_n (scaleQ p q.1) (scaleQ p q.2) (scaleQ_sz hp hq.1) (scaleQ_sz hp hq.2)) ?_
  simp (maxSteps := 10000000) only [↓sx, sx, ↓ty, ↓reduceIte, Nat.reduceEqDiff, Nat.reduceAdd, ls, bs, and_self, Nat.reduceAdd, Nat.le_refl, pj, timesQ]
set_option maxRecDepth 100000 in
set_option maxHeartbeats 4000000 in
theorem sure4_n (p : Rat × Rat) : Meets Tryz.prog Gd 54 [iqP p] (if 0 < p.1.num.sign then .tup [iP 1, .val (.bool true)] else if p.2.num.sign < 0 then .tup [iP (-1), .val (.bool true)] else .tup [iP 0, .val (.bool (decide (p.1.num.sign = 0) && decide (p.2.num.sign = 0)))]) := by
  refine meets_of_vc (Y := {}) (N := 24) (rs := [.tmp 2, .tmp 3]) mix tk gd Tryz.func54 rfl (by kernel_rfl) rfl rfl (by simp) (by kernel_rfl) ?_
  simp (maxSteps := 10000000) only [↓sx, sx, ↓ty, ↓reduceIte, Nat.reduceEqDiff, Nat.reduceAdd, Nat.reduceLeDiff, ne_eq, not_false_eq_true, ls, Nat.reduceAdd, pj]
  refine CallT.mk (t := ⟨⟩) (sign3_n gd p.1) ?_
  simp (maxSteps := 10000000) only [↓sx, sx, ↓ty, ↓reduceIte, Nat.reduceEqDiff, Nat.reduceAdd, ne_eq, not_false_eq_true, ls, Nat.reduceAdd, Nat.le_refl]
  refine CallT.mk (t := ⟨⟩) (sign3_n gd p.2) ?_
  by_cases c1 : 0 < p.1.num.sign
  · have d1 : decide (p.1.num.sign > 0) = true := by simpa using c1
    rw [if_pos c1]
    simp (maxSteps := 10000000) only [↓sx, sx, ↓reduceIte, Nat.reduceEqDiff, pc, d1]
  · have d1 : decide (p.1.num.sign > 0) = false := by simpa using c1
    rw [if_neg c1]
    by_cases c2 : p.2.num.sign < 0
    · have d2 : decide (p.2.num.sign < 0) = true := by simpa using c2
      rw [if_pos c2]
      simp (maxSteps := 10000000) only [↓sx, sx, ↓reduceIte, Nat.reduceEqDiff, pc, d1, d2]
    · have d2 : decide (p.2.num.sign < 0) = false := by simpa using c2
      rw [if_neg c2]
      by_cases c3 : p.1.num.sign = 0
      · have d3 : (p.1.num.sign == 0) = true := by simpa using c3
        simp (maxSteps := 10000000) only [↓sx, sx, ↓reduceIte, Nat.reduceEqDiff, Nat.reduceLT, pc, d1, d2, d3]
        simp only [c3, decide_true, Bool.true_and]
        rfl
      · have d3 : (p.1.num.sign == 0) = false := by simpa using c3
        simp (maxSteps := 10000000) only [↓sx, sx, ↓reduceIte, Nat.reduceEqDiff, Nat.reduceLT, pc, d1, d2, d3]
        simp only [c3, decide_false, Bool.false_and]
set_option maxRecDepth 100000 in
set_option maxHeartbeats 4000000 in
theorem zero4_n (p : Rat × Rat) : Meets Tryz.prog Gd 64 [iqP p] (.val (.bool (decide (p.1.num.sign ≤ 0) && decide (0 ≤ p.2.num.sign)))) := by
  refine meets_of_vc (Y := {}) (N := 13) (rs := [.tmp 2]) mix tk gd Tryz.func64 rfl (by kernel_rfl) rfl rfl (by simp) (by kernel_rfl) ?_
  simp (maxSteps := 10000000) only [↓sx, sx, ↓ty, ↓reduceIte, Nat.reduceEqDiff, Nat.reduceAdd, Nat.reduceLeDiff, ne_eq, not_false_eq_true, ls, Nat.reduceAdd, pj]
  refine CallT.mk (t := ⟨⟩) (sign3_n gd p.1) ?_
  by_cases c1 : p.1.num.sign ≤ 0
  · have d1 : decide (p.1.num.sign ≤ 0) = true := by simpa using c1
    rw [d1]
    simp (maxSteps := 10000000) only [↓sx, sx, ↓ty, ↓reduceIte, Nat.reduceEqDiff, Nat.reduceAdd, Nat.reduceLT, ne_eq, not_false_eq_true, pc, ls, Nat.reduceAdd, Nat.le_refl, d1]
    refine CallT.mk (t := ⟨⟩) (sign3_n gd p.2) ?_
    simp (maxSteps := 10000000) only [↓sx, sx, ↓reduceIte, Nat.reduceEqDiff, Nat.reduceLT, pc, and_self]
  · have d1 : decide (p.1.num.sign ≤ 0) = false := by simpa using c1
    rw [d1]
    simp (maxSteps := 10000000) only [↓sx, sx, ↓reduceIte, Nat.reduceEqDiff, Nat.reduceLT, pc, and_self, d1]
set_option maxRecDepth 100000 in
set_option maxHeartbeats 4000000 in
theorem over4_n (p q : Rat × Rat) (hp : SzI 20000 p) (hq : SzI 20000 q) (h1 : q.1 ≠ 0) (h2 : q.2 ≠ 0) : Meets Tryz.prog Gd 65 [iqP p, iqP q] (iqP (overQ p q)) := by
  refine meets_of_vc (Y := {}) (N := 14) (rs := [.cell 4 68]) mix tk gd Tryz.func65 rfl (by kernel_rfl) rfl rfl (by simp) (by kernel_rfl) ?_
  simp (maxSteps := 10000000) only [↓sx, sx, ↓ty, ↓reduceIte, Nat.reduceEqDiff, Nat.reduceAdd, ne_eq, not_false_eq_true, ls, Nat.reduceAdd, Nat.le_refl, pj]
  refine CallT.mk (t := ⟨⟩) (inv3_n gd q.2 h2) ?_
  simp (maxSteps := 10000000) only [↓sx, sx, ↓ty, ↓reduceIte, Nat.reduceEqDiff, Nat.reduceAdd, Nat.reduceLeDiff, ne_eq, not_false_eq_true, ls, Nat.reduceAdd]
  refine CallT.mk (t := ⟨⟩) (inv3_n gd q.1 h1) ?_
  simp (maxSteps := 10000000) only [↓sx, sx, ↓ty, ↓reduceIte, Nat.reduceEqDiff, Nat.reduceAdd, Nat.reduceLeDiff, pc, ls, bs, and_self, Nat.reduceAdd, Nat.le_refl]
  refine CallT.mk (t := ⟨⟩) (times4_n p (q.2⁻¹, q.1⁻¹) hp ⟨hq.2.inv (by omega), hq.1.inv (by omega)⟩) ?_
  simp (maxSteps := 10000000) only [↓sx, sx, ↓ty, ↓reduceIte, Nat.reduceEqDiff, Nat.reduceAdd, ls, bs, and_self, Nat.reduceAdd, Nat.le_refl, pj, overQ]
set_option maxRecDepth 100000 in
set_option maxHeartbeats 4000000 in
theorem valid4_n (a b : List UInt8) (ha : a.length < 90000) (hb : b.length < 90000) : Meets Tryz.prog Gd 18 [ivP a b] (.val (.bool (isIv a b))) := by
  refine meets_of_vc (Y := {}) (N := 11) (rs := [.tmp 2]) mix tk gd Tryz.func18 rfl (by kernel_rfl) rfl rfl (by simp) (by kernel_rfl) ?_
  simp (maxSteps := 10000000) only [↓sx, sx, ↓ty, ↓reduceIte, Nat.reduceEqDiff, Nat.reduceAdd, ls, Nat.reduceAdd, Nat.le_refl, pi]
  refine CallT.mk (t := ⟨⟩) (from4_n a b ha hb) ?_
  simp (maxSteps := 10000000) only [↓sx, sx, ↓ty, ↓reduceIte, Nat.reduceEqDiff, Nat.reduceAdd, ls, bs, and_self, Nat.reduceAdd, Nat.le_refl, pj]
set_option maxRecDepth 100000 in
set_option maxHeartbeats 4000000 in
theorem exact4_n (a : List UInt8) (ha : a.length < 90000) : Meets Tryz.prog Gd 14 [strP a] (if isRat a then .tup [ivP a a, iP 0] else .tup [ivP [] [], iP 1]) := by
  refine meets_of_vc (Y := {}) (N := 11) (rs := [.cell 2 24, .tmp 3]) mix tk gd Tryz.func14 rfl (by kernel_rfl) rfl rfl (by simp) (by kernel_rfl) ?_
  simp (maxSteps := 10000000) only [↓sx, sx, ↓ty, ↓reduceIte, Nat.reduceEqDiff, pc]
  refine CallT.mk (valid3_n gd a (by omega)) ?_
  cases h : isRat a with
  | false =>
    simp (maxSteps := 10000000) only [↓sx, sx, ↓ty, ↓reduceIte, Nat.reduceEqDiff, Nat.reduceAdd, pc, ls, bs, and_self, Nat.reduceAdd, Nat.le_refl, pi]
  | true =>
    simp (maxSteps := 10000000) only [↓sx, sx, ↓ty, ↓reduceIte, Nat.reduceEqDiff, Nat.reduceAdd, Nat.reduceLeDiff, pc, ls, bs, and_self, Nat.reduceAdd, Nat.le_refl, pi]
end Go.Proofs.YtkfmneenhochhaaGreatDoor.S
namespace Gb
open Go Go.RowKit Go.Sx
theorem ends4 (p q r s : Rat) : endsQ (p, p) [q, r, s] = (leastQ (leastQ p r) (leastQ q s), mostQ (mostQ p r) (mostQ q s)) := by
  simp only [endsQ, List.foldl, leastQ, mostQ]
  grind
theorem leastQ_l {x y : Rat} (h : x ≤ y) : leastQ x y = x := by unfold leastQ; rw [if_pos h]
theorem leastQ_r {x y : Rat} (h : y ≤ x) : leastQ x y = y := by unfold leastQ; split <;> grind
theorem mostQ_l {x y : Rat} (h : y ≤ x) : mostQ x y = x := by unfold mostQ; rw [if_pos h]
theorem mostQ_r {x y : Rat} (h : x ≤ y) : mostQ x y = y := by unfold mostQ; split <;> grind
theorem corQ_mul (a1 a2 b1 b2 : Rat) : corQ (· * ·) a1 a2 b1 b2 = timesQ (a1, a2) (b1, b2) := by
  unfold corQ
  rw [ends4]
  rfl
theorem corQ_add {a1 a2 b1 b2 : Rat} (ha : a1 ≤ a2) (hb : b1 ≤ b2) : corQ (· + ·) a1 a2 b1 b2 = (a1 + b1, a2 + b2) := by
  unfold corQ
  rw [ends4]
  dsimp only
  rw [leastQ_l (show a1 + b1 ≤ a2 + b1 by grind), leastQ_l (show a1 + b2 ≤ a2 + b2 by grind), leastQ_l (show a1 + b1 ≤ a1 + b2 by grind),
    mostQ_r (show a1 + b1 ≤ a2 + b1 by grind), mostQ_r (show a1 + b2 ≤ a2 + b2 by grind), mostQ_r (show a2 + b1 ≤ a2 + b2 by grind)]
theorem corQ_sub {a1 a2 b1 b2 : Rat} (ha : a1 ≤ a2) (hb : b1 ≤ b2) : corQ (· - ·) a1 a2 b1 b2 = (a1 - b2, a2 - b1) := by
  unfold corQ
  rw [ends4]
  dsimp only
  rw [leastQ_l (show a1 - b1 ≤ a2 - b1 by grind), leastQ_l (show a1 - b2 ≤ a2 - b2 by grind), leastQ_r (show a1 - b2 ≤ a1 - b1 by grind),
    mostQ_r (show a1 - b1 ≤ a2 - b1 by grind), mostQ_r (show a1 - b2 ≤ a2 - b2 by grind), mostQ_l (show a2 - b2 ≤ a2 - b1 by grind)]
theorem corQ_div {a1 a2 b1 b2 : Rat} : corQ (· / ·) a1 a2 b1 b2 = overQ (a1, a2) (b1, b2) := by
  unfold corQ overQ
  rw [ends4]
  simp only [timesQ, scaleQ, joinQ, Rat.div_def]
  generalize a1 * b1⁻¹ = p
  generalize a1 * b2⁻¹ = q
  generalize a2 * b1⁻¹ = r
  generalize a2 * b2⁻¹ = s
  simp only [leastQ, mostQ]
  grind
theorem sq_nonneg (a : Rat) : 0 ≤ a * a := by
  by_cases h : 0 ≤ a
  · exact Rat.mul_nonneg h h
  · have : 0 ≤ -a * -a := Rat.mul_nonneg (by grind) (by grind)
    grind
theorem sq0 (a1 a2 : Rat) : endsQ (0, 0) [a1 * a1, a2 * a2] = (0, (joinQ (a1 * a1, a1 * a1) (a2 * a2, a2 * a2)).2) := by
  have h1 := sq_nonneg a1
  have h2 := sq_nonneg a2
  generalize a1 * a1 = x at *
  generalize a2 * a2 = y at *
  simp only [endsQ, List.foldl, joinQ, leastQ, mostQ]
  grind
theorem sq1 (a1 a2 : Rat) : endsQ (a1 * a1, a1 * a1) [a2 * a2] = joinQ (a1 * a1, a1 * a1) (a2 * a2, a2 * a2) := by
  generalize a1 * a1 = x at *
  generalize a2 * a2 = y at *
  simp only [endsQ, List.foldl, joinQ, leastQ, mostQ]
  grind
theorem meet1 (a1 b1 : Rat) : (endsQ (a1, a1) [b1]).2 = mostQ a1 b1 := by
  simp only [endsQ, List.foldl, mostQ]
  grind
theorem meet2 (a1 b1 : Rat) : (endsQ (a1, a1) [b1]).1 = leastQ a1 b1 := by
  simp only [endsQ, List.foldl, leastQ]
  grind
theorem meet_iff {a1 a2 b1 b2 : Rat} (ha : a1 ≤ a2) (hb : b1 ≤ b2) : (¬ a2 < b1 ∧ ¬ b2 < a1) ↔ mostQ a1 b1 ≤ leastQ a2 b2 := by
  simp only [leastQ, mostQ]
  grind
theorem sign_le0 (x : Rat) : x.num.sign ≤ 0 ↔ x ≤ 0 := by
  have := le_sign x 0
  rwa [show x - 0 = x by grind] at this
theorem sign_ge0 (x : Rat) : 0 ≤ x.num.sign ↔ 0 ≤ x := by
  have := ge_sign x 0
  rwa [show x - 0 = x by grind] at this
theorem sign_lt0 (x : Rat) : x.num.sign < 0 ↔ x < 0 := by
  have := lt_sign x 0
  rwa [show x - 0 = x by grind] at this
theorem sign_gt0 (x : Rat) : 0 < x.num.sign ↔ 0 < x := by
  have := sign_le0 x
  grind
theorem sign_eq0 (x : Rat) : x.num.sign = 0 ↔ x = 0 := by
  have h1 := sign_le0 x
  have h2 := sign_ge0 x
  grind
end Gb
namespace Go.Proofs.YtkfmneenhochhaaGreatDoor.S
open Go Go.Sx Go.RowKit Gb Go.Shelf
theorem rd_rT {a : List UInt8} (h : isRat a = true) : rd a = ratOf a := by unfold rd; rw [if_pos h]
set_option maxRecDepth 100000 in
set_option maxHeartbeats 4000000 in
theorem has4_n (a b x : List UInt8) (ha : a.length < 36000) (hb : b.length < 36000) (hx : x.length < 36000) : Meets Tryz.prog Gd 20 [ivP a b, strP x] (.val (.bool (isIv a b && isRat x && !decide (ratOf x < ratOf a) && !decide (ratOf b < ratOf x)))) := by
  refine meets_of_vc (Y := {}) (N := 37) (rs := [.tmp 4]) mix tk gd Tryz.func20 rfl (by kernel_rfl) rfl rfl (by simp) (by kernel_rfl) ?_
  simp (maxSteps := 10000000) only [↓sx, sx, ↓ty, ↓reduceIte, Nat.reduceEqDiff, Nat.reduceAdd, ls, Nat.reduceAdd, Nat.le_refl, pi]
  refine CallT.mk (from4_n a b (by omega) (by omega)) ?_
  cases h : isIv a b with
  | false =>
    simp only [Bool.false_and]
    simp (maxSteps := 10000000) only [↓sx, sx, ↓ty, ↓reduceIte, Nat.reduceEqDiff, Nat.reduceAdd, pc, ls, bs, and_self, Nat.reduceAdd, Nat.le_refl, pj]
    refine CallT.mk (t := ⟨⟩) (from3_n gd x (by omega)) ?_
    simp (maxSteps := 10000000) only [↓sx, sx, ↓ty, ↓reduceIte, Nat.reduceEqDiff, Nat.reduceAdd, Nat.reduceLT, pc, ls, bs, and_self, Nat.reduceAdd, Nat.le_refl]
  | true =>
    obtain ⟨v1, v2, v3⟩ := isIv_spec h
    rw [rd_rT v1, rd_rT v2]
    simp (maxSteps := 10000000) only [↓sx, sx, ↓ty, ↓reduceIte, Nat.reduceEqDiff, Nat.reduceAdd, pc, ls, bs, and_self, Nat.reduceAdd, Nat.le_refl, pj]
    refine CallT.mk (t := ⟨⟩) (from3_n gd x (by omega)) ?_
    cases h2 : isRat x with
    | false =>
      simp only [Bool.true_and, Bool.false_and, Bool.false_eq_true, if_false]
      simp (maxSteps := 10000000) only [↓sx, sx, ↓ty, ↓reduceIte, Nat.reduceEqDiff, Nat.reduceAdd, Nat.reduceLT, pc, ls, bs, and_self, Nat.reduceAdd, Nat.le_refl]
    | true =>
      simp only [Bool.true_and, if_true]
      have sa := (Sz.text v1).mono (m := 40000) (by omega)
      have sb := (Sz.text v2).mono (m := 40000) (by omega)
      have sx1 := (Sz.text h2).mono (m := 40000) (by omega)
      have e1 : ∀ x y : Rat, (!decide (x < y)) = decide (y ≤ x) := by intro x y; by_cases h : x < y <;> simp [h] <;> grind
      rw [e1, e1]
      by_cases c1 : ratOf a ≤ ratOf x
      · simp (maxSteps := 10000000) only [↓sx, sx, ↓ty, ↓reduceIte, Nat.reduceEqDiff, Nat.reduceAdd, Nat.reduceLeDiff, Nat.reduceLT, ne_eq, not_false_eq_true, pc, ls, bs, and_self, Nat.reduceAdd, Nat.le_refl]
        refine CallT.mk (t := ⟨⟩) (cmp3_n gd (ratOf a) (ratOf x) sa sx1) ?_
        have c2 : decide ((ratOf a - ratOf x).num.sign ≤ 0) = true := decide_eq_true ((le_sign _ _).2 c1)
        simp (maxSteps := 10000000) only [↓sx, sx, ↓ty, ↓reduceIte, Nat.reduceEqDiff, Nat.reduceAdd, Nat.reduceLT, ne_eq, not_false_eq_true, pc, ls, Nat.reduceAdd, Nat.le_refl, c2]
        refine CallT.mk (t := ⟨⟩) (cmp3_n gd (ratOf x) (ratOf b) sx1 sb) ?_
        simp (maxSteps := 10000000) only [↓sx, sx, ↓reduceIte, Nat.reduceEqDiff, Nat.reduceLT, pc, bs, and_self, le_sign, c1, decide_true]
      · simp (maxSteps := 10000000) only [↓sx, sx, ↓ty, ↓reduceIte, Nat.reduceEqDiff, Nat.reduceAdd, Nat.reduceLeDiff, Nat.reduceLT, ne_eq, not_false_eq_true, pc, ls, bs, and_self, Nat.reduceAdd, Nat.le_refl]
        refine CallT.mk (t := ⟨⟩) (cmp3_n gd (ratOf a) (ratOf x) sa sx1) ?_
        have c2 : decide ((ratOf a - ratOf x).num.sign ≤ 0) = false := decide_eq_false fun h => c1 ((le_sign _ _).1 h)
        simp (maxSteps := 10000000) only [↓sx, sx, ↓reduceIte, Nat.reduceEqDiff, Nat.reduceLT, pc, bs, and_self, c2, c1, decide_false]
set_option maxRecDepth 100000 in
set_option maxHeartbeats 4000000 in
theorem both4_n (a1 a2 b1 b2 : List UInt8) (ha1 : a1.length < 90000) (ha2 : a2.length < 90000) (hb1 : b1.length < 90000) (hb2 : b2.length < 90000) : Meets Tryz.prog Gd 59 [ivP a1 a2, ivP b1 b2] (.tup [iqP (rd a1, rd a2), iqP (rd b1, rd b2), iP (if isIv a1 a2 && isIv b1 b2 then 0 else 1)]) := by
  refine meets_of_vc (Y := { ex := [4, 5] }) (N := 31) (rs := [.cell 4 68, .cell 5 68, .tmp 6]) mix tk gd Tryz.func59 rfl (by kernel_rfl) rfl rfl (by simp) (by kernel_rfl) ?_
  simp (maxSteps := 10000000) only [↓sx, sx, ↓ty, ↓reduceIte, Nat.reduceEqDiff, Nat.reduceAdd, ls, Nat.reduceAdd, Nat.le_refl, pi]
  refine CallT.mk (from4_n a1 a2 ha1 ha2) ?_
  simp (maxSteps := 10000000) only [↓sx, sx, ↓ty, ↓reduceIte, Nat.reduceEqDiff, Nat.reduceAdd, ls, bs, and_self, Nat.reduceAdd, Nat.le_refl, pj]
  refine CallT.mk (from4_n b1 b2 hb1 hb2) ?_
  cases h1 : isIv a1 a2 with
  | false =>
    simp only [Bool.false_and, Bool.false_eq_true, if_false]
    simp (maxSteps := 10000000) only [↓sx, sx, ↓ty, ↓reduceIte, Nat.reduceEqDiff, Nat.reduceBeqDiff, Nat.reduceAdd, Nat.reduceLT, pc, ls, bs, and_self, Nat.reduceAdd, Nat.le_refl, pi, pj]
    first | exact ⟨by kernel_rfl, rfl⟩ | kernel_rfl
  | true =>
    cases h2 : isIv b1 b2 with
    | false =>
      simp only [Bool.and_false, Bool.false_eq_true, if_false]
      simp (maxSteps := 10000000) only [↓sx, sx, ↓ty, ↓reduceIte, Nat.reduceEqDiff, Nat.reduceBeqDiff, Nat.reduceAdd, Nat.reduceLT, pc, ls, bs, and_self, Nat.reduceAdd, Nat.le_refl, pi, pj]
      first | exact ⟨by kernel_rfl, rfl⟩ | kernel_rfl
    | true =>
      simp only [Bool.and_self, if_true]
      simp (maxSteps := 10000000) only [↓sx, sx, ↓ty, ↓reduceIte, Nat.reduceEqDiff, Nat.reduceBeqDiff, Nat.reduceAdd, Nat.reduceLT, pc, ls, bs, and_self, Nat.reduceAdd, Nat.le_refl, pi, pj]
      first | exact ⟨by kernel_rfl, rfl⟩ | kernel_rfl
set_option maxRecDepth 100000 in
set_option maxHeartbeats 4000000 in
theorem add4_n (a1 a2 b1 b2 : List UInt8) (ha1 : a1.length < 13000) (ha2 : a2.length < 13000) (hb1 : b1.length < 13000) (hb2 : b2.length < 13000) : Meets Tryz.prog Gd 22 [ivP a1 a2, ivP b1 b2] (icorP (· + ·) a1 a2 b1 b2) := by
  refine meets_of_vc (Y := {}) (N := 24) (rs := [.cell 4 24, .tmp 5]) mix tk gd Tryz.func22 rfl (by kernel_rfl) rfl rfl (by simp) (by kernel_rfl) ?_
  simp (maxSteps := 10000000) only [↓sx, sx, ↓ty, ↓reduceIte, Nat.reduceEqDiff, Nat.reduceAdd, ls, Nat.reduceAdd, Nat.le_refl, pi]
  refine CallT.mk (both4_n a1 a2 b1 b2 (by omega) (by omega) (by omega) (by omega)) ?_
  unfold icorP
  cases hv : (isIv a1 a2 && isIv b1 b2) with
  | false =>
    simp only [Bool.false_eq_true, if_false]
    simp (maxSteps := 10000000) only [↓sx, sx, ↓ty, ↓reduceIte, Nat.reduceEqDiff, Nat.reduceAdd, Int.reduceBNe, pc, ls, bs, and_self, Nat.reduceAdd, Nat.le_refl, pi, pj]
  | true =>
    simp only [if_true]
    obtain ⟨h1, h2⟩ := and_split hv
    obtain ⟨v1, v2, v3⟩ := isIv_spec h1
    obtain ⟨v4, v5, v6⟩ := isIv_spec h2
    have sa1 := (Sz.text v1).mono (m := 1500) (by omega)
    have sa2 := (Sz.text v2).mono (m := 1500) (by omega)
    have sb1 := (Sz.text v4).mono (m := 1500) (by omega)
    have sb2 := (Sz.text v5).mono (m := 1500) (by omega)
    have pq : corQ (· + ·) (ratOf a1) (ratOf a2) (ratOf b1) (ratOf b2) = _ := corQ_add v3 v6
    rw [rd_rT v1, rd_rT v2, rd_rT v4, rd_rT v5, pq]
    simp (maxSteps := 10000000) only [↓sx, sx, ↓ty, ↓reduceIte, Nat.reduceEqDiff, Nat.reduceAdd, Int.reduceBNe, pc, ls, bs, and_self, Nat.reduceAdd, Nat.le_refl, pj]
    refine CallT.mk (t := ⟨⟩) (plus4_n (ratOf a1, ratOf a2) (ratOf b1, ratOf b2) ⟨sa1.mono (by omega), sa2.mono (by omega)⟩ ⟨sb1.mono (by omega), sb2.mono (by omega)⟩) ?_
    simp (maxSteps := 10000000) only [↓sx, sx, ↓reduceIte, pj]
    refine CallT.mk (t := ⟨⟩) (to4_n (ratOf a1 + ratOf b1, ratOf a2 + ratOf b2) ⟨(sa1.add sb1).mono (by omega), (sa2.add sb2).mono (by omega)⟩) ?_
    simp (maxSteps := 10000000) only [↓sx, sx, ↓ty, ↓reduceIte, Nat.reduceEqDiff, Nat.reduceAdd, pc, ls, bs, and_self, Nat.reduceAdd, Nat.le_refl, pi]
set_option maxRecDepth 100000 in
set_option maxHeartbeats 4000000 in
theorem sub4_n (a1 a2 b1 b2 : List UInt8) (ha1 : a1.length < 13000) (ha2 : a2.length < 13000) (hb1 : b1.length < 13000) (hb2 : b2.length < 13000) : Meets Tryz.prog Gd 24 [ivP a1 a2, ivP b1 b2] (icorP (· - ·) a1 a2 b1 b2) := by
  refine meets_of_vc (Y := {}) (N := 24) (rs := [.cell 4 24, .tmp 5]) mix tk gd Tryz.func24 rfl (by kernel_rfl) rfl rfl (by simp) (by kernel_rfl) ?_
  simp (maxSteps := 10000000) only [↓sx, sx, ↓ty, ↓reduceIte, Nat.reduceEqDiff, Nat.reduceAdd, ls, Nat.reduceAdd, Nat.le_refl, pi]
  refine CallT.mk (both4_n a1 a2 b1 b2 (by omega) (by omega) (by omega) (by omega)) ?_
  unfold icorP
  cases hv : (isIv a1 a2 && isIv b1 b2) with
  | false =>
    simp only [Bool.false_eq_true, if_false]
    simp (maxSteps := 10000000) only [↓sx, sx, ↓ty, ↓reduceIte, Nat.reduceEqDiff, Nat.reduceAdd, Int.reduceBNe, pc, ls, bs, and_self, Nat.reduceAdd, Nat.le_refl, pi, pj]
  | true =>
    simp only [if_true]
    obtain ⟨h1, h2⟩ := and_split hv
    obtain ⟨v1, v2, v3⟩ := isIv_spec h1
    obtain ⟨v4, v5, v6⟩ := isIv_spec h2
    have sa1 := (Sz.text v1).mono (m := 1500) (by omega)
    have sa2 := (Sz.text v2).mono (m := 1500) (by omega)
    have sb1 := (Sz.text v4).mono (m := 1500) (by omega)
    have sb2 := (Sz.text v5).mono (m := 1500) (by omega)
    have pq : corQ (· - ·) (ratOf a1) (ratOf a2) (ratOf b1) (ratOf b2) = _ := corQ_sub v3 v6
    rw [rd_rT v1, rd_rT v2, rd_rT v4, rd_rT v5, pq]
    simp (maxSteps := 10000000) only [↓sx, sx, ↓ty, ↓reduceIte, Nat.reduceEqDiff, Nat.reduceAdd, Int.reduceBNe, pc, ls, bs, and_self, Nat.reduceAdd, Nat.le_refl, pj]
    refine CallT.mk (t := ⟨⟩) (minus4_n (ratOf a1, ratOf a2) (ratOf b1, ratOf b2) ⟨sa1.mono (by omega), sa2.mono (by omega)⟩ ⟨sb1.mono (by omega), sb2.mono (by omega)⟩) ?_
    simp (maxSteps := 10000000) only [↓sx, sx, ↓reduceIte, pj]
    refine CallT.mk (t := ⟨⟩) (to4_n (ratOf a1 - ratOf b2, ratOf a2 - ratOf b1) ⟨(sa1.sub sb2).mono (by omega), (sa2.sub sb1).mono (by omega)⟩) ?_
    simp (maxSteps := 10000000) only [↓sx, sx, ↓ty, ↓reduceIte, Nat.reduceEqDiff, Nat.reduceAdd, pc, ls, bs, and_self, Nat.reduceAdd, Nat.le_refl, pi]
set_option maxRecDepth 100000 in
set_option maxHeartbeats 4000000 in
theorem mul4_n (a1 a2 b1 b2 : List UInt8) (ha1 : a1.length < 13000) (ha2 : a2.length < 13000) (hb1 : b1.length < 13000) (hb2 : b2.length < 13000) : Meets Tryz.prog Gd 26 [ivP a1 a2, ivP b1 b2] (icorP (· * ·) a1 a2 b1 b2) := by
  refine meets_of_vc (Y := {}) (N := 24) (rs := [.cell 4 24, .tmp 5]) mix tk gd Tryz.func26 rfl (by kernel_rfl) rfl rfl (by simp) (by kernel_rfl) ?_
  simp (maxSteps := 10000000) only [↓sx, sx, ↓ty, ↓reduceIte, Nat.reduceEqDiff, Nat.reduceAdd, ls, Nat.reduceAdd, Nat.le_refl, pi]
  refine CallT.mk (both4_n a1 a2 b1 b2 (by omega) (by omega) (by omega) (by omega)) ?_
  unfold icorP
  cases hv : (isIv a1 a2 && isIv b1 b2) with
  | false =>
    simp only [Bool.false_eq_true, if_false]
    simp (maxSteps := 10000000) only [↓sx, sx, ↓ty, ↓reduceIte, Nat.reduceEqDiff, Nat.reduceAdd, Int.reduceBNe, pc, ls, bs, and_self, Nat.reduceAdd, Nat.le_refl, pi, pj]
  | true =>
    simp only [if_true]
    obtain ⟨h1, h2⟩ := and_split hv
    obtain ⟨v1, v2, v3⟩ := isIv_spec h1
    obtain ⟨v4, v5, v6⟩ := isIv_spec h2
    have sa1 := (Sz.text v1).mono (m := 1500) (by omega)
    have sa2 := (Sz.text v2).mono (m := 1500) (by omega)
    have sb1 := (Sz.text v4).mono (m := 1500) (by omega)
    have sb2 := (Sz.text v5).mono (m := 1500) (by omega)
    have pq : corQ (· * ·) (ratOf a1) (ratOf a2) (ratOf b1) (ratOf b2) = _ := corQ_mul _ _ _ _
    rw [rd_rT v1, rd_rT v2, rd_rT v4, rd_rT v5, pq]
    simp (maxSteps := 10000000) only [↓sx, sx, ↓ty, ↓reduceIte, Nat.reduceEqDiff, Nat.reduceAdd, Int.reduceBNe, pc, ls, bs, and_self, Nat.reduceAdd, Nat.le_refl, pj]
    refine CallT.mk (t := ⟨⟩) (times4_n (ratOf a1, ratOf a2) (ratOf b1, ratOf b2) ⟨sa1.mono (by omega), sa2.mono (by omega)⟩ ⟨sb1.mono (by omega), sb2.mono (by omega)⟩) ?_
    simp (maxSteps := 10000000) only [↓sx, sx, ↓reduceIte, pj]
    refine CallT.mk (t := ⟨⟩) (to4_n (timesQ (ratOf a1, ratOf a2) (ratOf b1, ratOf b2)) ((timesQ_sz (p := (ratOf a1, ratOf a2)) (q := (ratOf b1, ratOf b2)) ⟨sa1, sa2⟩ ⟨sb1, sb2⟩).mono (by omega))) ?_
    simp (maxSteps := 10000000) only [↓sx, sx, ↓ty, ↓reduceIte, Nat.reduceEqDiff, Nat.reduceAdd, pc, ls, bs, and_self, Nat.reduceAdd, Nat.le_refl, pi]
end Go.Proofs.YtkfmneenhochhaaGreatDoor.S
namespace Gb
open Go Go.RowKit Go.Sx
theorem zeroIn_eq {a b : List UInt8} (h : isIv a b = true) : zeroIn a b = (decide ((ratOf a).num.sign ≤ 0) && decide (0 ≤ (ratOf b).num.sign)) := by
  unfold zeroIn
  rw [h, Bool.true_and]
  have e1 : (!decide (0 < ratOf a)) = decide ((ratOf a).num.sign ≤ 0) := by
    by_cases c : 0 < ratOf a
    · have : ¬ (ratOf a).num.sign ≤ 0 := fun h => by have := (sign_le0 _).1 h; grind
      simp [c, this, -Int.sign_nonpos_iff]
    · have : (ratOf a).num.sign ≤ 0 := (sign_le0 _).2 (by grind)
      rw [decide_eq_false c, decide_eq_true this]; rfl
  have e2 : (!decide (ratOf b < 0)) = decide (0 ≤ (ratOf b).num.sign) := by
    by_cases c : ratOf b < 0
    · have : ¬ 0 ≤ (ratOf b).num.sign := fun h => by have := (sign_ge0 _).1 h; grind
      rw [decide_eq_true c, decide_eq_false this]; rfl
    · have : 0 ≤ (ratOf b).num.sign := (sign_ge0 _).2 (by grind)
      rw [decide_eq_false c, decide_eq_true this]; rfl
  rw [e1, e2]
end Gb
namespace Go.Proofs.YtkfmneenhochhaaGreatDoor.S
open Go Go.Sx Go.RowKit Gb Go.Shelf
set_option maxRecDepth 100000 in
set_option maxHeartbeats 4000000 in
theorem div4_n (a1 a2 b1 b2 : List UInt8) (ha1 : a1.length < 13000) (ha2 : a2.length < 13000) (hb1 : b1.length < 13000) (hb2 : b2.length < 13000) : Meets Tryz.prog Gd 28 [ivP a1 a2, ivP b1 b2] (idivP a1 a2 b1 b2) := by
  refine meets_of_vc (Y := {}) (N := 27) (rs := [.cell 4 24, .tmp 5]) mix tk gd Tryz.func28 rfl (by kernel_rfl) rfl rfl (by simp) (by kernel_rfl) ?_
  simp (maxSteps := 10000000) only [↓sx, sx, ↓ty, ↓reduceIte, Nat.reduceEqDiff, Nat.reduceAdd, ls, Nat.reduceAdd, Nat.le_refl, pi]
  refine CallT.mk (both4_n a1 a2 b1 b2 (by omega) (by omega) (by omega) (by omega)) ?_
  unfold idivP icorP
  cases hv : (isIv a1 a2 && isIv b1 b2) with
  | false =>
    have hz : (isIv a1 a2 && zeroIn b1 b2) = false := by
      unfold zeroIn
      cases h1 : isIv a1 a2 with
      | false => rfl
      | true => rw [h1, Bool.true_and] at hv; rw [hv]; rfl
    rw [hz]
    simp only [Bool.false_eq_true, if_false]
    simp (maxSteps := 10000000) only [↓sx, sx, ↓ty, ↓reduceIte, Nat.reduceEqDiff, Nat.reduceAdd, Int.reduceBNe, pc, ls, bs, and_self, Nat.reduceAdd, Nat.le_refl, pi, pj]
  | true =>
    simp only [if_true]
    obtain ⟨h1, h2⟩ := and_split hv
    obtain ⟨v1, v2, v3⟩ := isIv_spec h1
    obtain ⟨v4, v5, v6⟩ := isIv_spec h2
    have sa1 := (Sz.text v1).mono (m := 1500) (by omega)
    have sa2 := (Sz.text v2).mono (m := 1500) (by omega)
    have sb1 := (Sz.text v4).mono (m := 1500) (by omega)
    have sb2 := (Sz.text v5).mono (m := 1500) (by omega)
    rw [h1, Bool.true_and, zeroIn_eq h2]
    rw [rd_rT v1, rd_rT v2, rd_rT v4, rd_rT v5]
    simp (maxSteps := 10000000) only [↓sx, sx, ↓ty, ↓reduceIte, Nat.reduceEqDiff, Nat.reduceAdd, Int.reduceBNe, pc, ls, bs, and_self, Nat.reduceAdd, Nat.le_refl, pj]
    refine CallT.mk (t := ⟨⟩) (zero4_n (ratOf b1, ratOf b2)) ?_
    cases hz : (decide ((ratOf b1).num.sign ≤ 0) && decide (0 ≤ (ratOf b2).num.sign)) with
    | true =>
      simp only [if_true]
      simp (maxSteps := 10000000) only [↓sx, sx, ↓ty, ↓reduceIte, Nat.reduceEqDiff, Nat.reduceAdd, pc, ls, bs, and_self, Nat.reduceAdd, Nat.le_refl, pi]
    | false =>
      simp only [Bool.false_eq_true, if_false]
      rw [corQ_div]
      simp only [Bool.and_eq_false_iff, decide_eq_false_iff_not, sign_le0, sign_ge0] at hz
      simp (maxSteps := 10000000) only [↓sx, sx, ↓ty, ↓reduceIte, Nat.reduceEqDiff, Nat.reduceAdd, ls, Nat.reduceAdd, Nat.le_refl]
      refine CallT.mk (t := ⟨⟩) (over4_n (ratOf a1, ratOf a2) (ratOf b1, ratOf b2) ⟨sa1.mono (by omega), sa2.mono (by omega)⟩ ⟨sb1.mono (by omega), sb2.mono (by omega)⟩ (by dsimp only; grind) (by dsimp only; grind)) ?_
      simp (maxSteps := 10000000) only [↓sx, sx, ↓reduceIte, pj]
      refine CallT.mk (t := ⟨⟩) (to4_n (overQ (ratOf a1, ratOf a2) (ratOf b1, ratOf b2)) ((overQ_sz (by omega) (p := (ratOf a1, ratOf a2)) (q := (ratOf b1, ratOf b2)) ⟨sa1, sa2⟩ ⟨sb1, sb2⟩).mono (by omega))) ?_
      simp (maxSteps := 10000000) only [↓sx, sx, ↓ty, ↓reduceIte, Nat.reduceEqDiff, Nat.reduceAdd, pc, ls, bs, and_self, Nat.reduceAdd, Nat.le_refl, pi]
set_option maxRecDepth 100000 in
set_option maxHeartbeats 4000000 in
theorem sq4_n (a1 a2 : List UInt8) (ha1 : a1.length < 13000) (ha2 : a2.length < 13000) : Meets Tryz.prog Gd 30 [ivP a1 a2] (isqP a1 a2) := by
  refine meets_of_vc (Y := {}) (N := 34) (rs := [.cell 2 24, .tmp 3]) mix tk gd Tryz.func30 rfl (by kernel_rfl) rfl rfl (by simp) (by kernel_rfl) ?_
  simp (maxSteps := 10000000) only [↓sx, sx, ↓ty, ↓reduceIte, Nat.reduceEqDiff, Nat.reduceAdd, ls, Nat.reduceAdd, Nat.le_refl, pi]
  refine CallT.mk (from4_n a1 a2 (by omega) (by omega)) ?_
  unfold isqP
  cases hv : isIv a1 a2 with
  | false =>
    simp only [Bool.false_eq_true, if_false]
    simp (maxSteps := 10000000) only [↓sx, sx, ↓ty, ↓reduceIte, Nat.reduceEqDiff, Nat.reduceAdd, pc, ls, bs, and_self, Nat.reduceAdd, Nat.le_refl, pi, pj]
  | true =>
    simp only [if_true]
    obtain ⟨v1, v2, v3⟩ := isIv_spec hv
    have sa1 := (Sz.text v1).mono (m := 1500) (by omega)
    have sa2 := (Sz.text v2).mono (m := 1500) (by omega)
    rw [rd_rT v1, rd_rT v2, zeroIn_eq hv]
    generalize ratOf a1 = x at *
    generalize ratOf a2 = y at *
    simp (maxSteps := 10000000) only [↓sx, sx, ↓ty, ↓reduceIte, Nat.reduceEqDiff, Nat.reduceAdd, Nat.reduceLeDiff, ne_eq, not_false_eq_true, ls, bs, and_self, Nat.reduceAdd, Nat.le_refl, pj]
    refine CallT.mk (t := ⟨⟩) (mul3_n gd x x (sa1.mono (by omega)) (sa1.mono (by omega))) ?_
    simp (maxSteps := 10000000) only [↓sx, sx, ↓reduceIte, pc]
    refine CallT.mk (t := ⟨⟩) (just4_n (x * x)) ?_
    simp (maxSteps := 10000000) only [↓sx, sx, ↓ty, ↓reduceIte, Nat.reduceEqDiff, Nat.reduceAdd, ne_eq, not_false_eq_true, ls, Nat.reduceAdd, Nat.le_refl]
    refine CallT.mk (t := ⟨⟩) (mul3_n gd y y (sa2.mono (by omega)) (sa2.mono (by omega))) ?_
    simp (maxSteps := 10000000) only [↓sx, sx, ↓reduceIte, pc]
    refine CallT.mk (t := ⟨⟩) (just4_n (y * y)) ?_
    have s1 := sa1.mul sa1
    have s2 := sa2.mul sa2
    simp (maxSteps := 10000000) only [↓sx, sx, ↓reduceIte, Nat.reduceEqDiff, pj]
    refine CallT.mk (t := ⟨⟩) (join4_n (x * x, x * x) (y * y, y * y) ⟨s1.mono (by omega), s1.mono (by omega)⟩ ⟨s2.mono (by omega), s2.mono (by omega)⟩) ?_
    rw [sq0, sq1]
    have sj := joinQ_sz (k := 3000) (p := (x * x, x * x)) (q := (y * y, y * y)) ⟨s1, s1⟩ ⟨s2, s2⟩
    generalize joinQ (x * x, x * x) (y * y, y * y) = J at *
    simp (maxSteps := 10000000) only [↓sx, sx, ↓ty, ↓reduceIte, Nat.reduceEqDiff, Nat.reduceAdd, ls, bs, and_self, Nat.reduceAdd, Nat.le_refl, pj]
    refine CallT.mk (t := ⟨⟩) (zero4_n (x, y)) ?_
    cases hz : (decide (x.num.sign ≤ 0) && decide (0 ≤ y.num.sign)) with
    | true =>
      simp only [if_true]
      simp (maxSteps := 10000000) only [↓sx, sx, ↓reduceIte]
      refine CallT.mk (t := ⟨⟩) (int3_n gd 0 (by omega) (by omega)) ?_
      simp (maxSteps := 10000000) only [↓sx, sx, ↓ty, ↓reduceIte, Nat.reduceEqDiff, Nat.reduceAdd, Nat.reduceLeDiff, ne_eq, not_false_eq_true, pc, ls, bs, and_self, Nat.reduceAdd, Nat.le_refl]
      refine CallT.mk (t := ⟨⟩) (to4_n (0, J.2) ⟨Sz0 _ (by omega), sj.2.mono (by omega)⟩) ?_
      simp (maxSteps := 10000000) only [↓sx, sx, ↓ty, ↓reduceIte, Nat.reduceEqDiff, Nat.reduceAdd, pc, ls, bs, and_self, Nat.reduceAdd, Nat.le_refl, pi]
    | false =>
      simp only [Bool.false_eq_true, if_false]
      simp (maxSteps := 10000000) only [↓sx, sx, ↓ty, ↓reduceIte, Nat.reduceEqDiff, Nat.reduceAdd, ls, Nat.reduceAdd, Nat.le_refl]
      refine CallT.mk (t := ⟨⟩) (to4_n J (sj.mono (by omega))) ?_
      simp (maxSteps := 10000000) only [↓sx, sx, ↓ty, ↓reduceIte, Nat.reduceEqDiff, Nat.reduceAdd, pc, ls, bs, and_self, Nat.reduceAdd, Nat.le_refl, pi]
set_option maxRecDepth 100000 in
set_option maxHeartbeats 4000000 in
theorem sign4_n (a1 a2 : List UInt8) (ha1 : a1.length < 13000) (ha2 : a2.length < 13000) : Meets Tryz.prog Gd 16 [ivP a1 a2] (isignP a1 a2) := by
  refine meets_of_vc (Y := {}) (N := 23) (rs := [.tmp 2, .tmp 3, .tmp 4]) mix tk gd Tryz.func16 rfl (by kernel_rfl) rfl rfl (by simp) (by kernel_rfl) ?_
  simp (maxSteps := 10000000) only [↓sx, sx, ↓ty, ↓reduceIte, Nat.reduceEqDiff, Nat.reduceAdd, ls, Nat.reduceAdd, Nat.le_refl, pi]
  refine CallT.mk (from4_n a1 a2 (by omega) (by omega)) ?_
  unfold isignP
  cases hv : isIv a1 a2 with
  | false =>
    simp only [Bool.false_eq_true, if_false]
    simp (maxSteps := 10000000) only [↓sx, sx, ↓ty, ↓reduceIte, Nat.reduceEqDiff, Nat.reduceAdd, pc, ls, bs, and_self, Nat.reduceAdd, Nat.le_refl, pj]
  | true =>
    simp only [if_true]
    obtain ⟨v1, v2, v3⟩ := isIv_spec hv
    have inj := ratOf_inj v1 v2
    have et : (a1 == a2) = decide (ratOf a1 = ratOf a2) := by
      by_cases h : a1 = a2
      · simp [h]
      · simp [h, inj]
    rw [rd_rT v1, rd_rT v2, et]
    generalize ratOf a1 = x at *
    generalize ratOf a2 = y at *
    simp (maxSteps := 10000000) only [↓sx, sx, ↓ty, ↓reduceIte, Nat.reduceEqDiff, Nat.reduceAdd, ls, bs, and_self, Nat.reduceAdd, Nat.le_refl, pj]
    refine CallT.mk (t := ⟨⟩) (sure4_n (x, y)) ?_
    by_cases c1 : 0 < x
    · have d1 : 0 < x.num.sign := (sign_gt0 x).2 c1
      simp only [d1, c1, if_true]
      simp (maxSteps := 10000000) only [↓sx, sx, ↓reduceIte, Nat.reduceEqDiff, pc]
    · have d1 : ¬ 0 < x.num.sign := fun h => c1 ((sign_gt0 x).1 h)
      by_cases c2 : y < 0
      · have d2 : y.num.sign < 0 := (sign_lt0 y).2 c2
        simp only [d1, c1, d2, c2, if_true, if_false]
        simp (maxSteps := 10000000) only [↓sx, sx, ↓reduceIte, Nat.reduceEqDiff, pc]
      · have d2 : ¬ y.num.sign < 0 := fun h => c2 ((sign_lt0 y).1 h)
        have e : (decide (x.num.sign = 0) && decide (y.num.sign = 0)) = decide (x = y) := by
          have q1 := sign_eq0 x
          have q2 := sign_eq0 y
          by_cases h : x = y
          · have hx : x = 0 := by grind
            subst h
            rw [decide_eq_true (q1.2 hx)]; simp
          · rw [decide_eq_false h]
            by_cases hx : x = 0
            · rw [decide_eq_false (p := y.num.sign = 0) (fun h2 => h (by rw [hx, q2.1 h2]))]; simp
            · rw [decide_eq_false (p := x.num.sign = 0) (fun h2 => hx (q1.1 h2))]; simp
        simp only [d1, c1, d2, c2, if_false]
        rw [e]
        simp (maxSteps := 10000000) only [↓sx, sx, ↓reduceIte, Nat.reduceEqDiff, pc]
set_option maxRecDepth 100000 in
set_option maxHeartbeats 4000000 in
theorem meet4_n (a1 a2 b1 b2 : List UInt8) (ha1 : a1.length < 13000) (ha2 : a2.length < 13000) (hb1 : b1.length < 13000) (hb2 : b2.length < 13000) : Meets Tryz.prog Gd 34 [ivP a1 a2, ivP b1 b2] (imeetP a1 a2 b1 b2) := by
  refine meets_of_vc (Y := {}) (N := 40) (rs := [.cell 4 24, .tmp 5]) mix tk gd Tryz.func34 rfl (by kernel_rfl) rfl rfl (by simp) (by kernel_rfl) ?_
  simp (maxSteps := 10000000) only [↓sx, sx, ↓ty, ↓reduceIte, Nat.reduceEqDiff, Nat.reduceAdd, ls, Nat.reduceAdd, Nat.le_refl, pi]
  refine CallT.mk (both4_n a1 a2 b1 b2 (by omega) (by omega) (by omega) (by omega)) ?_
  unfold imeetP
  cases hv : (isIv a1 a2 && isIv b1 b2) with
  | false =>
    simp only [Bool.false_and, Bool.false_eq_true, if_false]
    simp (maxSteps := 10000000) only [↓sx, sx, ↓ty, ↓reduceIte, Nat.reduceEqDiff, Nat.reduceAdd, Int.reduceBNe, pc, ls, bs, and_self, Nat.reduceAdd, Nat.le_refl, pi, pj]
  | true =>
    simp only [if_true, Bool.true_and]
    obtain ⟨h1, h2⟩ := and_split hv
    obtain ⟨v1, v2, v3⟩ := isIv_spec h1
    obtain ⟨v4, v5, v6⟩ := isIv_spec h2
    have sa1 := (Sz.text v1).mono (m := 1500) (by omega)
    have sa2 := (Sz.text v2).mono (m := 1500) (by omega)
    have sb1 := (Sz.text v4).mono (m := 1500) (by omega)
    have sb2 := (Sz.text v5).mono (m := 1500) (by omega)
    rw [rd_rT v1, rd_rT v2, rd_rT v4, rd_rT v5, meet1, meet2]
    have mi := meet_iff v3 v6
    generalize ratOf a1 = x1 at *
    generalize ratOf a2 = x2 at *
    generalize ratOf b1 = y1 at *
    generalize ratOf b2 = y2 at *
    have sl := mostQ_sz sa1 sb1
    have sh := leastQ_sz sa2 sb2
    simp (maxSteps := 10000000) only [↓sx, sx, ↓ty, ↓reduceIte, Nat.reduceEqDiff, Nat.reduceAdd, Nat.reduceLeDiff, Int.reduceBNe, ne_eq, not_false_eq_true, pc, ls, bs, and_self, Nat.reduceAdd, Nat.le_refl, pj]
    refine CallT.mk (t := ⟨⟩) (most_q x1 y1 (sa1.mono (by omega)) (sb1.mono (by omega))) ?_
    simp (maxSteps := 10000000) only [↓sx, sx, ↓ty, ↓reduceIte, Nat.reduceEqDiff, Nat.reduceAdd, ne_eq, not_false_eq_true, ls, Nat.reduceAdd, Nat.le_refl]
    refine CallT.mk (t := ⟨⟩) (least_q x2 y2 (sa2.mono (by omega)) (sb2.mono (by omega))) ?_
    simp (maxSteps := 10000000) only [↓sx, sx, ↓ty, ↓reduceIte, Nat.reduceEqDiff, Nat.reduceAdd, Nat.reduceLeDiff, ne_eq, not_false_eq_true, pc, ls, bs, and_self, Nat.reduceAdd, Nat.le_refl]
    refine CallT.mk (t := ⟨⟩) (cmp3_n gd (mostQ x1 y1) (leastQ x2 y2) (sl.mono (by omega)) (sh.mono (by omega))) ?_
    have lz := le_sign (mostQ x1 y1) (leastQ x2 y2)
    by_cases c : mostQ x1 y1 ≤ leastQ x2 y2
    · obtain ⟨c1, c2⟩ := mi.2 c
      have c3 : decide ((mostQ x1 y1 - leastQ x2 y2).num.sign > 0) = false := decide_eq_false (by have := lz.2 c; omega)
      rw [decide_eq_false c1, decide_eq_false c2]
      simp only [Bool.not_false, Bool.and_self, if_true]
      simp (maxSteps := 10000000) only [↓sx, sx, ↓ty, ↓reduceIte, Nat.reduceEqDiff, Nat.reduceAdd, pc, ls, Nat.reduceAdd, Nat.le_refl, c3]
      refine CallT.mk (t := ⟨⟩) (to4_n (mostQ x1 y1, leastQ x2 y2) ⟨sl.mono (by omega), sh.mono (by omega)⟩) ?_
      simp (maxSteps := 10000000) only [↓sx, sx, ↓ty, ↓reduceIte, Nat.reduceEqDiff, Nat.reduceAdd, ls, bs, and_self, Nat.reduceAdd, Nat.le_refl, pi]
    · have c3 : decide ((mostQ x1 y1 - leastQ x2 y2).num.sign > 0) = true := decide_eq_true (by have : ¬ (mostQ x1 y1 - leastQ x2 y2).num.sign ≤ 0 := fun h => c (lz.1 h); omega)
      have e : (!decide (x2 < y1) && !decide (y2 < x1)) = false := by
        by_cases c1 : x2 < y1
        · simp [c1]
        · by_cases c2 : y2 < x1
          · simp [c2]
          · exact absurd (mi.1 ⟨c1, c2⟩) c
      rw [e]
      simp only [Bool.false_eq_true, if_false]
      simp (maxSteps := 10000000) only [↓sx, sx, ↓ty, ↓reduceIte, Nat.reduceEqDiff, Nat.reduceAdd, pc, ls, bs, and_self, Nat.reduceAdd, Nat.le_refl, pi, c3]
set_option maxRecDepth 100000 in
set_option maxHeartbeats 4000000 in
theorem grid4_n (a : Rat) (n : Int) (ha : Sz 400 a) (h1 : 1 ≤ n) (h2 : n ≤ 1000000000) : Meets Tryz.prog Gd 110 [qP a, iP n] (qP (downQ a n)) := by
  refine meets_of_vc (Y := {}) (N := 17) (rs := [.cell 4 66]) mix tk gd Tryz.func110 rfl (by kernel_rfl) rfl rfl (by simp) (by kernel_rfl) ?_
  have hn : Lw n.natAbs ≤ 2 := Lw_le (by show n.natAbs < 1000000000 ^ 2; omega)
  have sn : Sz 2 (n : Rat) := Sz.int hn (by omega)
  have n0 : (n : Rat) ≠ 0 := by rw [ne_eq, Rat.intCast_eq_zero_iff]; omega
  have sm := ha.mul (sn.mono (m := 400) (by omega))
  have sf : Sz 802 (((a * n).floor : Int) : Rat) := Sz.int (Lw_floor sm) (by omega)
  simp (maxSteps := 10000000) only [↓sx, sx, ↓ty, ↓reduceIte, Nat.reduceEqDiff, Nat.reduceAdd, pc, ls, Nat.reduceAdd, Nat.le_refl]
  refine CallT.mk (t := ⟨⟩) (int3_n gd n (by omega) (by omega)) ?_
  simp (maxSteps := 10000000) only [↓sx, sx, ↓reduceIte, Nat.reduceEqDiff, pc]
  refine CallT.mk (t := ⟨⟩) (mul3_n gd a n (ha.mono (by omega)) (sn.mono (by omega))) ?_
  simp (maxSteps := 10000000) only [↓sx, sx, ↓reduceIte, pc]
  refine CallT.mk (t := ⟨⟩) (whole3_n gd (a * n) (sm.mono (by omega))) ?_
  simp (maxSteps := 10000000) only [↓sx, sx, ↓ty, ↓reduceIte, Nat.reduceEqDiff, Nat.reduceAdd, pc, ls, bs, and_self, Nat.reduceAdd, Nat.le_refl]
  refine CallT.mk (t := ⟨⟩) (small_n gd 1 (by omega)) ?_
  simp (maxSteps := 10000000) only [↓sx, sx, ↓ty, ↓reduceIte, Nat.reduceEqDiff, Nat.reduceAdd, Nat.reduceLeDiff, pc, ls, bs, and_self, Nat.reduceAdd, Nat.le_refl]
  refine CallT.mk (t := ⟨⟩) (int3_n gd n (by omega) (by omega)) ?_
  simp (maxSteps := 10000000) only [↓sx, sx, ↓reduceIte, Nat.reduceEqDiff, pc]
  refine CallT.to (t := ⟨⟩) (div3_n gd (((a * n).floor : Int) : Rat) n (sf.mono (by omega)) (sn.mono (by omega)) n0) (by simp only [pc, Rat.num_intCast, Rat.den_intCast]; rfl) ?_
  simp (maxSteps := 10000000) only [↓sx, sx, ↓ty, ↓reduceIte, Nat.reduceEqDiff, Nat.reduceAdd, pc, ls, bs, and_self, Nat.reduceAdd, Nat.le_refl, downQ]
set_option maxRecDepth 100000 in
set_option maxHeartbeats 4000000 in
theorem out4_n (p : Rat × Rat) (n : Int) (hp : SzI 400 p) (h1 : 1 ≤ n) (h2 : n ≤ 1000000000) : Meets Tryz.prog Gd 76 [iqP p, iP n] (iqP (downQ p.1 n, -downQ (-p.2) n)) := by
  refine meets_of_vc (Y := {}) (N := 16) (rs := [.cell 4 68]) mix tk gd Tryz.func76 rfl (by kernel_rfl) rfl rfl (by simp) (by kernel_rfl) ?_
  simp (maxSteps := 10000000) only [↓sx, sx, ↓ty, ↓reduceIte, Nat.reduceEqDiff, Nat.reduceAdd, Nat.reduceLeDiff, ne_eq, not_false_eq_true, pc, ls, Nat.reduceAdd, pj]
  refine CallT.mk (t := ⟨⟩) (grid4_n p.1 n hp.1 h1 h2) ?_
  simp (maxSteps := 10000000) only [↓sx, sx, ↓ty, ↓reduceIte, Nat.reduceEqDiff, Nat.reduceAdd, ne_eq, not_false_eq_true, ls, Nat.reduceAdd, Nat.le_refl]
  refine CallT.mk (t := ⟨⟩) (neg3_n gd p.2) ?_
  simp (maxSteps := 10000000) only [↓sx, sx, ↓reduceIte, Nat.reduceEqDiff, pc]
  refine CallT.mk (t := ⟨⟩) (grid4_n (-p.2) n hp.2.neg h1 h2) ?_
  simp (maxSteps := 10000000) only [↓sx, sx, ↓reduceIte, pc]
  refine CallT.mk (t := ⟨⟩) (neg3_n gd (downQ (-p.2) n)) ?_
  simp (maxSteps := 10000000) only [↓sx, sx, ↓ty, ↓reduceIte, Nat.reduceEqDiff, Nat.reduceAdd, Nat.reduceLeDiff, pc, ls, bs, and_self, Nat.reduceAdd, Nat.le_refl, pj]
set_option maxRecDepth 100000 in
set_option maxHeartbeats 4000000 in
theorem round4_n (a1 a2 : List UInt8) (n : Int) (ha1 : a1.length < 3500) (ha2 : a2.length < 3500) : Meets Tryz.prog Gd 38 [ivP a1 a2, iP n] (iroundP a1 a2 n) := by
  refine meets_of_vc (Y := {}) (N := 27) (rs := [.cell 4 24, .tmp 5]) mix tk gd Tryz.func38 rfl (by kernel_rfl) rfl rfl (by simp) (by kernel_rfl) ?_
  simp (maxSteps := 10000000) only [↓sx, sx, ↓ty, ↓reduceIte, Nat.reduceEqDiff, Nat.reduceAdd, ls, Nat.reduceAdd, Nat.le_refl, pi]
  refine CallT.mk (from4_n a1 a2 (by omega) (by omega)) ?_
  unfold iroundP
  cases hv : isIv a1 a2 with
  | false =>
    simp only [Bool.false_eq_true, if_false]
    simp (maxSteps := 10000000) only [↓sx, sx, ↓ty, ↓reduceIte, Nat.reduceEqDiff, Nat.reduceAdd, pc, ls, bs, and_self, Nat.reduceAdd, Nat.le_refl, pi, pj]
  | true =>
    simp only [if_true]
    obtain ⟨v1, v2, v3⟩ := isIv_spec hv
    have sa1 := (Sz.text v1).mono (m := 400) (by omega)
    have sa2 := (Sz.text v2).mono (m := 400) (by omega)
    rw [rd_rT v1, rd_rT v2]
    generalize ratOf a1 = x at *
    generalize ratOf a2 = y at *
    by_cases c1 : n < 1
    · rw [if_pos (.inl c1)]
      have c1 : decide (n < 1) = true := by simp [c1]
      simp (maxSteps := 10000000) only [↓sx, sx, ↓ty, ↓reduceIte, Nat.reduceEqDiff, Nat.reduceAdd, Nat.reduceLT, pc, ls, bs, and_self, Nat.reduceAdd, Nat.le_refl, pi, pj, c1]
    · by_cases c2 : n > 1000000000
      · rw [if_pos (.inr c2)]
        have c1 : decide (n < 1) = false := by simp [c1]
        have c2 : decide (n > 1000000000) = true := by simp [c2]
        simp (maxSteps := 10000000) only [↓sx, sx, ↓ty, ↓reduceIte, Nat.reduceEqDiff, Nat.reduceAdd, Nat.reduceLT, pc, ls, bs, and_self, Nat.reduceAdd, Nat.le_refl, pi, pj, c1, c2]
      · rw [if_neg (by omega)]
        have d1 : decide (n < 1) = false := by simp [c1]
        have d2 : decide (n > 1000000000) = false := by simp [c2]
        have z1 := downQ_sz sa1 (n := n) (by omega) (by omega)
        have z2 := downQ_sz sa2.neg (n := n) (by omega) (by omega)
        simp (maxSteps := 10000000) only [↓sx, sx, ↓ty, ↓reduceIte, Nat.reduceEqDiff, Nat.reduceAdd, Nat.reduceLT, pc, ls, bs, and_self, Nat.reduceAdd, Nat.le_refl, pj, d1, d2]
        refine CallT.mk (t := ⟨⟩) (out4_n (x, y) n ⟨sa1, sa2⟩ (by omega) (by omega)) ?_
        simp (maxSteps := 10000000) only [↓sx, sx, ↓reduceIte, pj]
        refine CallT.mk (t := ⟨⟩) (to4_n (downQ x n, -downQ (-y) n) ⟨z1.mono (by omega), z2.neg.mono (by omega)⟩) ?_
        simp (maxSteps := 10000000) only [↓sx, sx, ↓ty, ↓reduceIte, Nat.reduceEqDiff, Nat.reduceAdd, pc, ls, bs, and_self, Nat.reduceAdd, Nat.le_refl, pi]
end Go.Proofs.YtkfmneenhochhaaGreatDoor.S
namespace Gb
open Go Go.RowKit Go.Sx
def idx {α : Type} (f : α → Bool) (l : List α) : Int := match l.findIdx? f with | some i => (i : Nat) | none => -1
theorem idx_any {α : Type} (f : α → Bool) (l : List α) : decide (idx f l ≥ 0) = l.any f := by
  unfold idx
  cases h : l.findIdx? f with
  | none =>
    rw [List.findIdx?_eq_none_iff] at h
    have : l.any f = false := by rw [List.any_eq_false]; intro x hx; simp [h x hx]
    rw [this]; rfl
  | some i =>
    have h2 : l.any f = true := by
      obtain ⟨h1, h2, _⟩ := List.findIdx?_eq_some_iff_getElem.1 h
      rw [List.any_eq_true]
      exact ⟨_, List.getElem_mem h1, h2⟩
    rw [h2]
    simp
theorem idx_at {α : Type} (f : α → Bool) (l : List α) (i : Nat) (x : α) (hx : l[i]? = some x) (h : ∀ y ∈ l.take i, f y = false) (hf : f x = true) : idx f l = i := by
  unfold idx
  obtain ⟨hi, rfl⟩ := List.getElem?_eq_some_iff.1 hx
  have : l.findIdx? f = some i := by
    rw [List.findIdx?_eq_some_iff_getElem]
    refine ⟨hi, hf, fun j hj => ?_⟩
    have := h l[j] (List.mem_take_iff_getElem.2 ⟨j, by omega, rfl⟩)
    simp [this]
  rw [this]
theorem idx_none {α : Type} (f : α → Bool) (l : List α) (h : ∀ y ∈ l, f y = false) : idx f l = -1 := by
  unfold idx
  have : l.findIdx? f = none := by rw [List.findIdx?_eq_none_iff]; exact h
  rw [this]
def texts (l : List (List UInt8)) : List PV := l.map strP
theorem loadT (P : Program) (G : World → Prop) (h0 h : Hp) (d : Option Nat) (k : SV → Hp → Prop) (l : List (List UInt8)) (i : Nat) : resK P G h0 d (loadK h (Option.map strP l[i]?)) k = (i < l.length ∧ k (.p (strP (l.getD i []))) h) := by
  by_cases hc : i < l.length <;> simp [hc, resK, loadK, List.getD]
def longB (a : List UInt8) : Bool := decide (40 < a.length)
def wideB (p : TT2) : Bool := longB p.1 || longB p.2
theorem take_snocA {α : Type} {l : List α} {i : Nat} {x : α} (hx : l[i]? = some x) : l.take (i + 1) = l.take i ++ [x] := by
  rw [List.take_add_one, hx]; rfl
end Gb
namespace Go.Proofs.YtkfmneenhochhaaGreatDoor.S
open Go Go.Sx Go.RowKit Gb Go.Shelf
set_option maxRecDepth 100000 in
theorem long1_n (a : List UInt8) : Meets Tryz.prog Gd 49 [strP a] (.val (.bool (longB a))) := by
  refine meets_of_vc (Y := {}) (N := 6) (rs := [.tmp 2]) mix tk gd Tryz.func49 rfl (by kernel_rfl) rfl rfl (by simp) (by kernel_rfl) ?_
  simp (maxSteps := 10000000) only [↓sx, sx, ↓ty, ↓reduceIte, Nat.reduceEqDiff, Nat.reduceBeqDiff, Nat.reduceAdd, Nat.reduceLeDiff, Nat.reduceLT, Nat.reduceMul, Nat.reduceSub, Int.reduceEq, Int.reduceBNe, Int.reduceBEq, ne_eq, not_false_eq_true, pc, ls, bs, and_true, true_and, and_self, Nat.reduceAdd, Nat.le_refl, leafP]
  have : decide ((a.length : Int) > 40) = longB a := by unfold longB; congr 1; apply propext; omega
  rw [this]
set_option maxRecDepth 100000 in
set_option maxHeartbeats 4000000 in
theorem idxT_n (g : FuncId) (f : List UInt8 → Bool) (l : List (List UInt8)) (hl : l.length ≤ 9223372036854775807) (hf : ∀ a ∈ l, Meets Tryz.prog Gd g [strP a] (.val (.bool (f a)))) :
    Meets Tryz.prog Gd 81 [.sl l.length (texts l), .clo g [] []] (iP (idx f l)) := by
  refine meets_of_vc (Y := {}) (N := 19) (rs := [.tmp 4]) mix tk gd Tryz.func81 rfl (by kernel_rfl) rfl rfl (by simp) (by kernel_rfl) ?_
  simp (maxSteps := 10000000) only [↓sx, sx, ↓ty, ↓reduceIte, Nat.reduceEqDiff, Nat.reduceBeqDiff, Nat.reduceAdd, Nat.reduceLeDiff, Nat.reduceLT, Nat.reduceMul, Nat.reduceSub, Int.reduceEq, Int.reduceBNe, Int.reduceBEq, ne_eq, not_false_eq_true, pc, ls, bs, and_true, true_and, and_self, Nat.reduceAdd, Nat.le_refl, leafP]
  refine loopK_of (fun i : Nat => [(0, .p (.sl l.length (texts l))), (1, .p (.clo g [] [])), (7, .p (.val (.int .i64 (l.length : Nat)))), (8, .p (.val (.int .i64 (i : Nat))))]) (fun _ => []) (fun _ => []) (fun i => i ≤ l.length ∧ ∀ y ∈ l.take i, f y = false) (fun i => l.length - i) 0 ⟨Nat.zero_le _, by simp⟩ ?_ ?_
  · simp (maxSteps := 10000000) only [isE_nil, is_cons, bo_p, bo_box, bo_orow, bo_rowp, any_cons', all_cons', all_nil', Bool.true_or, Bool.or_true, ↓sx, sx, ↓reduceIte, Nat.reduceEqDiff, Nat.reduceBeqDiff]
    try trivial
  · rintro i ⟨hi, hv⟩
    by_cases hil : i < l.length
    · have e1 : decide ((i : Int) < (l.length : Int)) = true := by simp; omega
      obtain ⟨a, ha⟩ : ∃ a, l[i]? = some a := ⟨l[i], List.getElem?_eq_getElem hil⟩
      have hm : a ∈ l := List.mem_of_getElem? ha
      have hd : (texts l)[i]? = some (strP a) := by unfold texts; rw [List.getElem?_map, ha]; rfl
      have hn : (texts l).length = l.length := by unfold texts; simp
      simp (maxSteps := 10000000) only [↓sx, sx, ↓ty, ↓reduceIte, Nat.reduceEqDiff, Nat.reduceBeqDiff, Nat.reduceAdd, Nat.reduceLeDiff, Nat.reduceLT, Nat.reduceMul, Nat.reduceSub, Int.reduceEq, Int.reduceBNe, Int.reduceBEq, ne_eq, not_false_eq_true, pc, ls, bs, and_true, true_and, and_self, Nat.reduceAdd, Nat.le_refl, leafP, e1, hd, hn]
      refine ⟨⟨by omega, hil⟩, ?_⟩
      refine CallT.mk (hf a hm) ?_
      cases hfa : f a with
      | true =>
        simp (maxSteps := 10000000) only [↓sx, sx, ↓ty, ↓reduceIte, Nat.reduceEqDiff, Nat.reduceBeqDiff, Nat.reduceAdd, Nat.reduceLeDiff, Nat.reduceLT, Nat.reduceMul, Nat.reduceSub, Int.reduceEq, Int.reduceBNe, Int.reduceBEq, ne_eq, not_false_eq_true, pc, ls, bs, and_true, true_and, and_self, Nat.reduceAdd, Nat.le_refl, leafP]
        rw [idx_at f l i a ha hv hfa]
      | false =>
        simp (maxSteps := 10000000) only [↓sx, sx, ↓ty, ↓reduceIte, Nat.reduceEqDiff, Nat.reduceBeqDiff, Nat.reduceAdd, Nat.reduceLeDiff, Nat.reduceLT, Nat.reduceMul, Nat.reduceSub, Int.reduceEq, Int.reduceBNe, Int.reduceBEq, ne_eq, not_false_eq_true, pc, ls, bs, and_true, true_and, and_self, Nat.reduceAdd, Nat.le_refl, leafP]
        refine NextK.mk (i + 1) (by omega) ⟨by omega, ?_⟩ ?_
        · intro y hy
          rw [take_snocA ha] at hy
          rcases List.mem_append.1 hy with hy | hy
          · exact hv y hy
          · rw [List.mem_singleton] at hy; rw [hy]; exact hfa
        · simp (maxSteps := 10000000) only [isE_nil, is_cons, bo_p, bo_box, bo_orow, bo_rowp, any_cons', all_cons', all_nil', Bool.true_or, Bool.or_true, ↓sx, sx, ↓reduceIte, Nat.reduceEqDiff, Nat.reduceBeqDiff]
          rw [i64_id (by omega) (by omega)]
          try rfl
    · obtain rfl : i = l.length := by omega
      rw [List.take_length] at hv
      have e1 : decide ((l.length : Int) < (l.length : Int)) = false := by simp
      simp (maxSteps := 10000000) only [↓sx, sx, ↓ty, ↓reduceIte, Nat.reduceEqDiff, Nat.reduceBeqDiff, Nat.reduceAdd, Nat.reduceLeDiff, Nat.reduceLT, Nat.reduceMul, Nat.reduceSub, Int.reduceEq, Int.reduceBNe, Int.reduceBEq, ne_eq, not_false_eq_true, pc, ls, bs, and_true, true_and, and_self, Nat.reduceAdd, Nat.le_refl, leafP, e1]
      rw [idx_none f l hv]
set_option maxRecDepth 100000 in
set_option maxHeartbeats 4000000 in
theorem idxI_n (g : FuncId) (f : TT2 → Bool) (l : List TT2) (hl : l.length ≤ 9223372036854775807) (hf : ∀ a ∈ l, Meets Tryz.prog Gd g [ivP a.1 a.2] (.val (.bool (f a)))) :
    Meets Tryz.prog Gd 80 [.sl l.length (flat l), .clo g [] []] (iP (idx f l)) := by
  refine meets_of_vc (Y := {}) (N := 19) (rs := [.tmp 4]) mix tk gd Tryz.func80 rfl (by kernel_rfl) rfl rfl (by simp) (by kernel_rfl) ?_
  simp (maxSteps := 10000000) only [↓sx, sx, ↓ty, ↓reduceIte, Nat.reduceEqDiff, Nat.reduceBeqDiff, Nat.reduceAdd, Nat.reduceLeDiff, Nat.reduceLT, Nat.reduceMul, Nat.reduceSub, Int.reduceEq, Int.reduceBNe, Int.reduceBEq, ne_eq, not_false_eq_true, pc, ls, bs, and_true, true_and, and_self, Nat.reduceAdd, Nat.le_refl, leafP]
  refine loopK_of (fun i : Nat => [(0, .p (.sl l.length (flat l))), (1, .p (.clo g [] [])), (7, .p (.val (.int .i64 (l.length : Nat)))), (8, .p (.val (.int .i64 (i : Nat))))]) (fun _ => []) (fun _ => []) (fun i => i ≤ l.length ∧ ∀ y ∈ l.take i, f y = false) (fun i => l.length - i) 0 ⟨Nat.zero_le _, by simp⟩ ?_ ?_
  · simp (maxSteps := 10000000) only [isE_nil, is_cons, bo_p, bo_box, bo_orow, bo_rowp, any_cons', all_cons', all_nil', Bool.true_or, Bool.or_true, ↓sx, sx, ↓reduceIte, Nat.reduceEqDiff, Nat.reduceBeqDiff]
    try trivial
  · rintro i ⟨hi, hv⟩
    by_cases hil : i < l.length
    · have e1 : decide ((i : Int) < (l.length : Int)) = true := by simp; omega
      obtain ⟨a, ha⟩ : ∃ a, l[i]? = some a := ⟨l[i], List.getElem?_eq_getElem hil⟩
      have hm : a ∈ l := List.mem_of_getElem? ha
      have hd := flat_drop l i hil
      rw [List.getD_eq_getElem?_getD, ha] at hd
      dsimp only [Option.getD_some] at hd
      simp (maxSteps := 10000000) only [↓sx, sx, ↓ty, ↓reduceIte, Nat.reduceEqDiff, Nat.reduceBeqDiff, Nat.reduceAdd, Nat.reduceLeDiff, Nat.reduceLT, Nat.reduceMul, Nat.reduceSub, Int.reduceEq, Int.reduceBNe, Int.reduceBEq, ne_eq, not_false_eq_true, pc, ls, bs, and_true, true_and, and_self, Nat.reduceAdd, Nat.le_refl, leafP, e1, hd, pi]
      refine ⟨⟨by omega, hil, by rw [flat_len]; omega⟩, ?_⟩
      refine CallT.mk (hf a hm) ?_
      cases hfa : f a with
      | true =>
        simp (maxSteps := 10000000) only [↓sx, sx, ↓ty, ↓reduceIte, Nat.reduceEqDiff, Nat.reduceBeqDiff, Nat.reduceAdd, Nat.reduceLeDiff, Nat.reduceLT, Nat.reduceMul, Nat.reduceSub, Int.reduceEq, Int.reduceBNe, Int.reduceBEq, ne_eq, not_false_eq_true, pc, ls, bs, and_true, true_and, and_self, Nat.reduceAdd, Nat.le_refl, leafP]
        rw [idx_at f l i a ha hv hfa]
      | false =>
        simp (maxSteps := 10000000) only [↓sx, sx, ↓ty, ↓reduceIte, Nat.reduceEqDiff, Nat.reduceBeqDiff, Nat.reduceAdd, Nat.reduceLeDiff, Nat.reduceLT, Nat.reduceMul, Nat.reduceSub, Int.reduceEq, Int.reduceBNe, Int.reduceBEq, ne_eq, not_false_eq_true, pc, ls, bs, and_true, true_and, and_self, Nat.reduceAdd, Nat.le_refl, leafP]
        refine NextK.mk (i + 1) (by omega) ⟨by omega, ?_⟩ ?_
        · intro y hy
          rw [take_snocA ha] at hy
          rcases List.mem_append.1 hy with hy | hy
          · exact hv y hy
          · rw [List.mem_singleton] at hy; rw [hy]; exact hfa
        · simp (maxSteps := 10000000) only [isE_nil, is_cons, bo_p, bo_box, bo_orow, bo_rowp, any_cons', all_cons', all_nil', Bool.true_or, Bool.or_true, ↓sx, sx, ↓reduceIte, Nat.reduceEqDiff, Nat.reduceBeqDiff]
          rw [i64_id (by omega) (by omega)]
          try rfl
    · obtain rfl : i = l.length := by omega
      rw [List.take_length] at hv
      have e1 : decide ((l.length : Int) < (l.length : Int)) = false := by simp
      simp (maxSteps := 10000000) only [↓sx, sx, ↓ty, ↓reduceIte, Nat.reduceEqDiff, Nat.reduceBeqDiff, Nat.reduceAdd, Nat.reduceLeDiff, Nat.reduceLT, Nat.reduceMul, Nat.reduceSub, Int.reduceEq, Int.reduceBNe, Int.reduceBEq, ne_eq, not_false_eq_true, pc, ls, bs, and_true, true_and, and_self, Nat.reduceAdd, Nat.le_refl, leafP, e1]
      rw [idx_none f l hv]
set_option maxRecDepth 100000 in
theorem anyT_n (g : FuncId) (f : List UInt8 → Bool) (l : List (List UInt8)) (hl : l.length ≤ 9223372036854775807) (hf : ∀ a ∈ l, Meets Tryz.prog Gd g [strP a] (.val (.bool (f a)))) :
    Meets Tryz.prog Gd 48 [.sl l.length (texts l), .clo g [] []] (.val (.bool (l.any f))) := by
  refine meets_of_vc (Y := {}) (N := 9) (rs := [.tmp 4]) mix tk gd Tryz.func48 rfl (by kernel_rfl) rfl rfl (by simp) (by kernel_rfl) ?_
  simp (maxSteps := 10000000) only [↓sx, sx, ↓ty, ↓reduceIte, Nat.reduceEqDiff, Nat.reduceBeqDiff, Nat.reduceAdd, Nat.reduceLeDiff, Nat.reduceLT, Nat.reduceMul, Nat.reduceSub, Int.reduceEq, Int.reduceBNe, Int.reduceBEq, ne_eq, not_false_eq_true, pc, ls, bs, and_true, true_and, and_self, Nat.reduceAdd, Nat.le_refl, leafP]
  refine CallT.mk (idxT_n g f l hl hf) ?_
  simp (maxSteps := 10000000) only [↓sx, sx, ↓ty, ↓reduceIte, Nat.reduceEqDiff, Nat.reduceBeqDiff, Nat.reduceAdd, Nat.reduceLeDiff, Nat.reduceLT, Nat.reduceMul, Nat.reduceSub, Int.reduceEq, Int.reduceBNe, Int.reduceBEq, ne_eq, not_false_eq_true, pc, ls, bs, and_true, true_and, and_self, Nat.reduceAdd, Nat.le_refl, leafP, idx_any]
set_option maxRecDepth 100000 in
theorem anyI_n (g : FuncId) (f : TT2 → Bool) (l : List TT2) (hl : l.length ≤ 9223372036854775807) (hf : ∀ a ∈ l, Meets Tryz.prog Gd g [ivP a.1 a.2] (.val (.bool (f a)))) :
    Meets Tryz.prog Gd 46 [.sl l.length (flat l), .clo g [] []] (.val (.bool (l.any f))) := by
  refine meets_of_vc (Y := {}) (N := 9) (rs := [.tmp 4]) mix tk gd Tryz.func46 rfl (by kernel_rfl) rfl rfl (by simp) (by kernel_rfl) ?_
  simp (maxSteps := 10000000) only [↓sx, sx, ↓ty, ↓reduceIte, Nat.reduceEqDiff, Nat.reduceBeqDiff, Nat.reduceAdd, Nat.reduceLeDiff, Nat.reduceLT, Nat.reduceMul, Nat.reduceSub, Int.reduceEq, Int.reduceBNe, Int.reduceBEq, ne_eq, not_false_eq_true, pc, ls, bs, and_true, true_and, and_self, Nat.reduceAdd, Nat.le_refl, leafP]
  refine CallT.mk (idxI_n g f l hl hf) ?_
  simp (maxSteps := 10000000) only [↓sx, sx, ↓ty, ↓reduceIte, Nat.reduceEqDiff, Nat.reduceBeqDiff, Nat.reduceAdd, Nat.reduceLeDiff, Nat.reduceLT, Nat.reduceMul, Nat.reduceSub, Int.reduceEq, Int.reduceBNe, Int.reduceBEq, ne_eq, not_false_eq_true, pc, ls, bs, and_true, true_and, and_self, Nat.reduceAdd, Nat.le_refl, leafP, idx_any]
set_option maxRecDepth 100000 in
theorem longL_n (l : List (List UInt8)) (hl : l.length ≤ 9223372036854775807) : Meets Tryz.prog Gd 12 [.sl l.length (texts l)] (.val (.bool (l.any longB))) := by
  refine meets_of_vc (Y := {}) (N := 5) (rs := [.tmp 2]) mix tk gd Tryz.func12 rfl (by kernel_rfl) rfl rfl (by simp) (by kernel_rfl) ?_
  simp (maxSteps := 10000000) only [↓sx, sx, ↓ty, ↓reduceIte, Nat.reduceEqDiff, Nat.reduceBeqDiff, Nat.reduceAdd, Nat.reduceLeDiff, Nat.reduceLT, Nat.reduceMul, Nat.reduceSub, Int.reduceEq, Int.reduceBNe, Int.reduceBEq, ne_eq, not_false_eq_true, pc, ls, bs, and_true, true_and, and_self, Nat.reduceAdd, Nat.le_refl, leafP]
  refine CallT.mk (anyT_n 49 longB l hl fun a ha => long1_n a) ?_
  simp (maxSteps := 10000000) only [↓sx, sx, ↓ty, ↓reduceIte, Nat.reduceEqDiff, Nat.reduceBeqDiff, Nat.reduceAdd, Nat.reduceLeDiff, Nat.reduceLT, Nat.reduceMul, Nat.reduceSub, Int.reduceEq, Int.reduceBNe, Int.reduceBEq, ne_eq, not_false_eq_true, pc, ls, bs, and_true, true_and, and_self, Nat.reduceAdd, Nat.le_refl, leafP]
set_option maxRecDepth 100000 in
theorem wide1_n (p : TT2) : Meets Tryz.prog Gd 47 [ivP p.1 p.2] (.val (.bool (wideB p))) := by
  refine meets_of_vc (Y := {}) (N := 9) (rs := [.tmp 2]) mix tk gd Tryz.func47 rfl (by kernel_rfl) rfl rfl (by simp) (by kernel_rfl) ?_
  simp (maxSteps := 10000000) only [↓sx, sx, ↓ty, ↓reduceIte, Nat.reduceEqDiff, Nat.reduceBeqDiff, Nat.reduceAdd, Nat.reduceLeDiff, Nat.reduceLT, Nat.reduceMul, Nat.reduceSub, Int.reduceEq, Int.reduceBNe, Int.reduceBEq, ne_eq, not_false_eq_true, pc, ls, bs, and_true, true_and, and_self, Nat.reduceAdd, Nat.le_refl, leafP, pi]
  refine CallT.mk (longL_n [p.1, p.2] (by simp)) ?_
  simp (maxSteps := 10000000) only [↓sx, sx, ↓ty, ↓reduceIte, Nat.reduceEqDiff, Nat.reduceBeqDiff, Nat.reduceAdd, Nat.reduceLeDiff, Nat.reduceLT, Nat.reduceMul, Nat.reduceSub, Int.reduceEq, Int.reduceBNe, Int.reduceBEq, ne_eq, not_false_eq_true, pc, ls, bs, and_true, true_and, and_self, Nat.reduceAdd, Nat.le_refl, leafP]
  simp [wideB]
set_option maxRecDepth 100000 in
theorem wideL_n (l : List TT2) (hl : l.length ≤ 9223372036854775807) : Meets Tryz.prog Gd 11 [.sl l.length (flat l)] (.val (.bool (l.any wideB))) := by
  refine meets_of_vc (Y := {}) (N := 5) (rs := [.tmp 2]) mix tk gd Tryz.func11 rfl (by kernel_rfl) rfl rfl (by simp) (by kernel_rfl) ?_
  simp (maxSteps := 10000000) only [↓sx, sx, ↓ty, ↓reduceIte, Nat.reduceEqDiff, Nat.reduceBeqDiff, Nat.reduceAdd, Nat.reduceLeDiff, Nat.reduceLT, Nat.reduceMul, Nat.reduceSub, Int.reduceEq, Int.reduceBNe, Int.reduceBEq, ne_eq, not_false_eq_true, pc, ls, bs, and_true, true_and, and_self, Nat.reduceAdd, Nat.le_refl, leafP]
  refine CallT.mk (anyI_n 47 wideB l hl fun a ha => wide1_n a) ?_
  simp (maxSteps := 10000000) only [↓sx, sx, ↓ty, ↓reduceIte, Nat.reduceEqDiff, Nat.reduceBeqDiff, Nat.reduceAdd, Nat.reduceLeDiff, Nat.reduceLT, Nat.reduceMul, Nat.reduceSub, Int.reduceEq, Int.reduceBNe, Int.reduceBEq, ne_eq, not_false_eq_true, pc, ls, bs, and_true, true_and, and_self, Nat.reduceAdd, Nat.le_refl, leafP]
set_option maxRecDepth 100000 in
theorem in_n (a b : List UInt8) : Meets Tryz.prog Gd 41 [strP a, strP b] (ivP a b) := by
  refine meets_of_vc (Y := {}) (N := 8) (rs := [.cell 4 24]) mix tk gd Tryz.func41 rfl (by kernel_rfl) rfl rfl (by simp) (by kernel_rfl) ?_
  simp (maxSteps := 10000000) only [↓sx, sx, ↓ty, ↓reduceIte, Nat.reduceEqDiff, Nat.reduceBeqDiff, Nat.reduceAdd, Nat.reduceLeDiff, Nat.reduceLT, Nat.reduceMul, Nat.reduceSub, Int.reduceEq, Int.reduceBNe, Int.reduceBEq, ne_eq, not_false_eq_true, pc, ls, bs, and_true, true_and, and_self, Nat.reduceAdd, Nat.le_refl, leafP, pi]
end Go.Proofs.YtkfmneenhochhaaGreatDoor.S
namespace Gb
open Go Go.RowKit Go.Sx
theorem la : (∀ (α : Type) (a : α) (l m : List α), List.append (a :: l) m = a :: List.append l m) ∧ (∀ (α : Type) (m : List α), List.append [] m = m) := ⟨fun _ _ _ _ => rfl, fun _ _ => rfl⟩
theorem dig1 (n : Nat) (h : n < 10) : Lib.decDigits n = [UInt8.ofNat (48 + n)] := by
  rw [Lib.decDigits, dif_pos h]
theorem dig2 (n : Nat) (h : n < 100) (h2 : 10 ≤ n) : Lib.decDigits n = [UInt8.ofNat (48 + n / 10), UInt8.ofNat (48 + n % 10)] := by
  rw [Lib.decDigits, dif_neg (by omega), dig1 _ (by omega)]; rfl
theorem iD_pos (n : Nat) : iD ((n : Nat) : Int) = Lib.decDigits n := iD_nat n
theorem iD_neg (n : Nat) (h : 0 < n) : iD (-(n : Int)) = 45 :: Lib.decDigits n := by
  unfold iD
  rw [if_pos (by omega), Int.natAbs_neg, Int.natAbs_natCast]
theorem rT_i {x : Rat} {z : Int} (h1 : x.num = z) (h2 : x.den = 1) : rT x = iD z := by unfold rT; rw [if_pos h2, h1]
theorem rT_f {x : Rat} {z : Int} {q : Nat} (h1 : x.num = z) (h2 : x.den = q) (h3 : q ≠ 1) : rT x = iD z ++ 47 :: Lib.decDigits q := by unfold rT; rw [if_neg (by rw [h2]; exact h3), h1, h2]
theorem t_m1 : rT (-1) = [45, 49] := (rT_i (z := -((1 : Nat) : Int)) (by decide +kernel) (by decide +kernel)).trans ((iD_neg 1 (by omega)).trans (congrArg (List.cons 45) (dig1 1 (by omega))))
theorem t_p2 : rT (2) = [50] := (rT_i (z := ((2 : Nat) : Int)) (by decide +kernel) (by decide +kernel)).trans ((iD_pos 2).trans (dig1 2 (by omega)))
theorem t_p3 : rT (3) = [51] := (rT_i (z := ((3 : Nat) : Int)) (by decide +kernel) (by decide +kernel)).trans ((iD_pos 3).trans (dig1 3 (by omega)))
theorem t_p4 : rT (4) = [52] := (rT_i (z := ((4 : Nat) : Int)) (by decide +kernel) (by decide +kernel)).trans ((iD_pos 4).trans (dig1 4 (by omega)))
theorem t_m4 : rT (-4) = [45, 52] := (rT_i (z := -((4 : Nat) : Int)) (by decide +kernel) (by decide +kernel)).trans ((iD_neg 4 (by omega)).trans (congrArg (List.cons 45) (dig1 4 (by omega))))
theorem t_p8 : rT (8) = [56] := (rT_i (z := ((8 : Nat) : Int)) (by decide +kernel) (by decide +kernel)).trans ((iD_pos 8).trans (dig1 8 (by omega)))
theorem t_p1 : rT (1) = [49] := (rT_i (z := ((1 : Nat) : Int)) (by decide +kernel) (by decide +kernel)).trans ((iD_pos 1).trans (dig1 1 (by omega)))
theorem t_m2 : rT (-2) = [45, 50] := (rT_i (z := -((2 : Nat) : Int)) (by decide +kernel) (by decide +kernel)).trans ((iD_neg 2 (by omega)).trans (congrArg (List.cons 45) (dig1 2 (by omega))))
theorem t_p5 : rT (5) = [53] := (rT_i (z := ((5 : Nat) : Int)) (by decide +kernel) (by decide +kernel)).trans ((iD_pos 5).trans (dig1 5 (by omega)))
theorem t_p6 : rT (6) = [54] := (rT_i (z := ((6 : Nat) : Int)) (by decide +kernel) (by decide +kernel)).trans ((iD_pos 6).trans (dig1 6 (by omega)))
theorem t_m3 : rT (-3) = [45, 51] := (rT_i (z := -((3 : Nat) : Int)) (by decide +kernel) (by decide +kernel)).trans ((iD_neg 3 (by omega)).trans (congrArg (List.cons 45) (dig1 3 (by omega))))
theorem t_f13 : rT (1/3) = [49, 47, 51] := by
  rw [rT_f (z := ((1 : Nat) : Int)) (q := 3) (by decide +kernel) (by decide +kernel) (by decide +kernel), iD_pos, dig1 1 (by omega), dig1 3 (by omega)]; rfl
theorem t_f12 : rT (1/2) = [49, 47, 50] := by
  rw [rT_f (z := ((1 : Nat) : Int)) (q := 2) (by decide +kernel) (by decide +kernel) (by decide +kernel), iD_pos, dig1 1 (by omega), dig1 2 (by omega)]; rfl
theorem t_f310 : rT (3/10) = [51, 47, 49, 48] := by
  rw [rT_f (z := ((3 : Nat) : Int)) (q := 10) (by decide +kernel) (by decide +kernel) (by decide +kernel), iD_pos, dig1 3 (by omega), dig2 10 (by omega) (by omega)]; rfl
theorem t_m14 : rT (-1/4) = [45, 49, 47, 52] := by
  rw [rT_f (z := -((1 : Nat) : Int)) (q := 4) (by decide +kernel) (by decide +kernel) (by decide +kernel), iD_neg 1 (by omega), dig1 1 (by omega), dig1 4 (by omega)]; rfl
theorem icor_rT (f : Rat → Rat → Rat) {a1 a2 b1 b2 : Rat} (ha : a1 ≤ a2) (hb : b1 ≤ b2) {c : Rat × Rat} (hc : corQ f a1 a2 b1 b2 = c) : icorP f (rT a1) (rT a2) (rT b1) (rT b2) = .tup [ivP (rT c.1) (rT c.2), iP 0] := by
  unfold icorP
  rw [isIv_rT ha, isIv_rT hb]
  simp only [Bool.and_self, if_true, ratOf_rT, hc]
  rfl
theorem zero_rT {a1 a2 : Rat} (ha : a1 ≤ a2) : zeroIn (rT a1) (rT a2) = (!decide (0 < a1) && !decide (a2 < 0)) := by
  unfold zeroIn
  rw [isIv_rT ha]
  simp only [Bool.true_and, ratOf_rT]
theorem aw_mul : icorP (· * ·) [45, 49] [50] [51] [52] = .tup [ivP [45, 52] [56], iP 0] := by
  have := icor_rT (· * ·) (a1 := -1) (a2 := 2) (b1 := 3) (b2 := 4) (by decide +kernel) (by decide +kernel) (c := (-4, 8)) (by decide +kernel)
  rwa [t_m1, t_p2, t_p3, t_p4, t_m4, t_p8] at this
theorem aw_add : icorP (· + ·) [49] [50] [51] [52] = .tup [ivP [52] [54], iP 0] := by
  have := icor_rT (· + ·) (a1 := 1) (a2 := 2) (b1 := 3) (b2 := 4) (by decide +kernel) (by decide +kernel) (c := (4, 6)) (by decide +kernel)
  rwa [t_p1, t_p2, t_p3, t_p4, t_p6] at this
theorem aw_sub : icorP (· - ·) [49] [50] [51] [52] = .tup [ivP [45, 51] [45, 49], iP 0] := by
  have := icor_rT (· - ·) (a1 := 1) (a2 := 2) (b1 := 3) (b2 := 4) (by decide +kernel) (by decide +kernel) (c := (-3, -1)) (by decide +kernel)
  rwa [t_p1, t_p2, t_p3, t_p4, t_m3, t_m1] at this
theorem aw_div : idivP [49] [50] [45, 52] [45, 50] = .tup [ivP [45, 49] [45, 49, 47, 52], iP 0] := by
  have := icor_rT (· / ·) (a1 := 1) (a2 := 2) (b1 := -4) (b2 := -2) (by decide +kernel) (by decide +kernel) (c := (-1, -1/4)) (by decide +kernel)
  have hz := zero_rT (a1 := -4) (a2 := -2) (by decide +kernel)
  rw [t_p1, t_p2, t_m4, t_m2, t_m1, t_m14] at this
  rw [t_m4, t_m2] at hz
  unfold idivP
  rw [this, hz]
  rw [show (!decide ((0 : Rat) < -4) && !decide ((-2 : Rat) < 0)) = false by decide +kernel, Bool.and_false]
  rfl
theorem aw_sq : isqP [45, 49] [50] = .tup [ivP [48] [52], iP 0] := by
  have hz := zero_rT (a1 := -1) (a2 := 2) (by decide +kernel)
  have hv := isIv_rT (x := -1) (y := 2) (by decide +kernel)
  have r1 := ratOf_rT (-1)
  have r2 := ratOf_rT 2
  rw [t_m1] at r1
  rw [t_p2] at r2
  rw [t_m1, t_p2] at hz hv
  unfold isqP
  rw [hv, hz, r1, r2, if_pos rfl, if_pos (by decide +kernel), show endsQ (0, 0) [(-1 : Rat) * -1, 2 * 2] = (0, 4) by decide +kernel, ivQ_iv]
  dsimp only
  rw [rT_0, t_p4]
theorem aw_round : iroundP [49, 47, 51] [49, 47, 50] 10 = .tup [ivP [51, 47, 49, 48] [49, 47, 50], iP 0] := by
  have hv := isIv_rT (x := 1/3) (y := 1/2) (by decide +kernel)
  have r1 := ratOf_rT (1/3)
  have r2 := ratOf_rT (1/2)
  rw [t_f13] at r1
  rw [t_f12] at r2
  rw [t_f13, t_f12] at hv
  unfold iroundP
  rw [hv, r1, r2, if_pos rfl, if_neg (by decide +kernel), show downQ (1/3) 10 = 3/10 by decide +kernel, show -downQ (-(1/2)) 10 = 1/2 by decide +kernel, ivQ_iv]
  dsimp only
  rw [t_f310, t_f12]
theorem aw_sign : isignP [45, 50] [45, 49] = .tup [iP (-1), .val (.bool true), iP 0] := by
  have hv := isIv_rT (x := -2) (y := -1) (by decide +kernel)
  have r1 := ratOf_rT (-2)
  have r2 := ratOf_rT (-1)
  rw [t_m2] at r1
  rw [t_m1] at r2
  rw [t_m2, t_m1] at hv
  unfold isignP
  rw [hv, r1, r2, if_pos rfl, if_neg (by decide +kernel), if_pos (by decide +kernel)]
theorem aw_meet : imeetP [49] [51] [50] [52] = .tup [ivP [50] [51], .val (.bool true)] := by
  have hv := isIv_rT (x := 1) (y := 3) (by decide +kernel)
  have hw := isIv_rT (x := 2) (y := 4) (by decide +kernel)
  have r1 := ratOf_rT 1
  have r2 := ratOf_rT 3
  have r3 := ratOf_rT 2
  have r4 := ratOf_rT 4
  rw [t_p1] at r1
  rw [t_p3] at r2
  rw [t_p2] at r3
  rw [t_p4] at r4
  rw [t_p1, t_p3] at hv
  rw [t_p2, t_p4] at hw
  unfold imeetP
  rw [hv, hw, r1, r2, r3, r4, if_pos (by decide +kernel), show ((endsQ ((1 : Rat), 1) [2]).2, (endsQ ((3 : Rat), 3) [4]).1) = (2, 3) by decide +kernel, ivQ_iv]
  dsimp only
  rw [t_p2, t_p3]
theorem aw_hull : hullP [([49], [50]), ([53], [54])] = .tup [ivP [49] [54], iP 0] := by
  have hv := isIv_rT (x := 1) (y := 2) (by decide +kernel)
  have hw := isIv_rT (x := 5) (y := 6) (by decide +kernel)
  have r1 := ratOf_rT 1
  have r2 := ratOf_rT 2
  have r3 := ratOf_rT 5
  have r4 := ratOf_rT 6
  rw [t_p1] at r1
  rw [t_p2] at r2
  rw [t_p5] at r3
  rw [t_p6] at r4
  rw [t_p1, t_p2] at hv
  rw [t_p5, t_p6] at hw
  have hq : hullQ [([49], [50]), ([53], [54])] = (1, 6) := by
    show endsQ (ratOf [49], ratOf [49]) [ratOf [50], ratOf [53], ratOf [54]] = _
    rw [r1, r2, r3, r4]
    decide +kernel
  unfold hullP
  rw [if_neg (by simp), if_neg (by simp), hq, ivQ_iv]
  simp only [List.all_cons, List.all_nil, hv, hw, Bool.and_self, Bool.and_true, if_true]
  rw [t_p1, t_p6]
theorem aw_rat : isRat [49, 47, 50] = true := by
  have := isRat_rT (1/2)
  rwa [t_f12] at this
theorem aw_iv : isIv [49, 47, 50] [49, 47, 50] = true := by
  have := isIv_rT (x := 1/2) (y := 1/2) (by decide +kernel)
  rwa [t_f12] at this
theorem aw_self (x : Rat) : (!decide (x < x)) = true := by simp
end Gb
namespace Go.Proofs.YtkfmneenhochhaaGreatDoor.S
open Go Go.Sx Go.RowKit Gb Go.Shelf
set_option maxRecDepth 100000 in
set_option maxHeartbeats 8000000 in
theorem awake_n : Meets Tryz.prog Gd 10 [] (.val (.bool true)) := by
  refine meets_of_vc (Y := {}) (N := 160) (rs := [.tmp 0]) mix tk gd Tryz.func10 rfl (by kernel_rfl) rfl rfl (by simp) (by kernel_rfl) ?_
  simp (maxSteps := 10000000) only [↓sx, sx]
  refine CallT.mk (t := ⟨⟩) (in_n [45, 49] [50]) ?_
  simp (maxSteps := 10000000) only [↓sx, sx]
  refine CallT.mk (t := ⟨⟩) (in_n [51] [52]) ?_
  simp (maxSteps := 10000000) only [↓sx, sx, ↓reduceIte, Nat.reduceEqDiff, pi]
  refine CallT.mk (t := ⟨⟩) (imul2_n [45, 49] [50] [51] [52] (by simp) (by simp) (by simp) (by simp)) ?_
  rw [aw_mul]
  simp (maxSteps := 10000000) only [↓sx, sx, ↓ty, ↓reduceIte, Nat.reduceEqDiff, Nat.reduceAdd, pc, ls, bs, and_self, Nat.reduceAdd, Nat.le_refl, pi]
  refine CallT.mk (t := ⟨⟩) (in_n [45, 49] [50]) ?_
  simp (maxSteps := 10000000) only [↓sx, sx, ↓reduceIte, pi]
  refine CallT.mk (t := ⟨⟩) (isq_n [45, 49] [50] (by simp) (by simp)) ?_
  rw [aw_sq]
  simp (maxSteps := 10000000) only [↓sx, sx, ↓ty, ↓reduceIte, Nat.reduceEqDiff, Nat.reduceAdd, pc, ls, bs, and_self, Nat.reduceAdd, Nat.le_refl, pi]
  refine CallT.mk (t := ⟨⟩) (in_n [49] [50]) ?_
  simp (maxSteps := 10000000) only [↓sx, sx]
  refine CallT.mk (t := ⟨⟩) (in_n [45, 52] [45, 50]) ?_
  simp (maxSteps := 10000000) only [↓sx, sx, ↓reduceIte, Nat.reduceEqDiff, pi]
  refine CallT.mk (t := ⟨⟩) (idiv2_n [49] [50] [45, 52] [45, 50] (by simp) (by simp) (by simp) (by simp)) ?_
  rw [aw_div]
  simp (maxSteps := 10000000) only [↓sx, sx, ↓ty, ↓reduceIte, Nat.reduceEqDiff, Nat.reduceAdd, pc, ls, bs, and_self, Nat.reduceAdd, Nat.le_refl, pi]
  refine CallT.mk (t := ⟨⟩) (in_n [49, 47, 51] [49, 47, 50]) ?_
  simp (maxSteps := 10000000) only [↓sx, sx, ↓reduceIte, pi]
  refine CallT.mk (t := ⟨⟩) (iround_n [49, 47, 51] [49, 47, 50] 10 (by simp) (by simp)) ?_
  rw [aw_round]
  simp (maxSteps := 10000000) only [↓sx, sx, ↓ty, ↓reduceIte, Nat.reduceEqDiff, Nat.reduceAdd, pc, ls, bs, and_self, Nat.reduceAdd, Nat.le_refl, pi]
  refine CallT.mk (t := ⟨⟩) (in_n [49] [50]) ?_
  simp (maxSteps := 10000000) only [↓sx, sx]
  refine CallT.mk (t := ⟨⟩) (in_n [51] [52]) ?_
  simp (maxSteps := 10000000) only [↓sx, sx, ↓reduceIte, Nat.reduceEqDiff, pi]
  refine CallT.mk (t := ⟨⟩) (iadd2_n [49] [50] [51] [52] (by simp) (by simp) (by simp) (by simp)) ?_
  rw [aw_add]
  simp (maxSteps := 10000000) only [↓sx, sx, ↓ty, ↓reduceIte, Nat.reduceEqDiff, Nat.reduceAdd, pc, ls, bs, and_self, Nat.reduceAdd, Nat.le_refl, pi]
  refine CallT.mk (t := ⟨⟩) (in_n [49] [50]) ?_
  simp (maxSteps := 10000000) only [↓sx, sx]
  refine CallT.mk (t := ⟨⟩) (in_n [51] [52]) ?_
  simp (maxSteps := 10000000) only [↓sx, sx, ↓reduceIte, Nat.reduceEqDiff, pi]
  refine CallT.mk (t := ⟨⟩) (isub2_n [49] [50] [51] [52] (by simp) (by simp) (by simp) (by simp)) ?_
  rw [aw_sub]
  simp (maxSteps := 10000000) only [↓sx, sx, ↓ty, ↓reduceIte, Nat.reduceEqDiff, Nat.reduceAdd, pc, ls, bs, and_self, Nat.reduceAdd, Nat.le_refl, pi]
  refine CallT.mk (t := ⟨⟩) (in_n [45, 50] [45, 49]) ?_
  simp (maxSteps := 10000000) only [↓sx, sx, ↓reduceIte, pi]
  refine CallT.mk (t := ⟨⟩) (isign2_n [45, 50] [45, 49] (by simp) (by simp)) ?_
  rw [aw_sign]
  simp (maxSteps := 10000000) only [↓sx, sx, ↓reduceIte, Nat.reduceEqDiff, pc]
  refine CallT.mk (t := ⟨⟩) (in_n [49] [51]) ?_
  simp (maxSteps := 10000000) only [↓sx, sx]
  refine CallT.mk (t := ⟨⟩) (in_n [50] [52]) ?_
  simp (maxSteps := 10000000) only [↓sx, sx, ↓reduceIte, Nat.reduceEqDiff, pi]
  refine CallT.mk (t := ⟨⟩) (imeet_n [49] [51] [50] [52] (by simp) (by simp) (by simp) (by simp)) ?_
  rw [aw_meet]
  simp (maxSteps := 10000000) only [↓sx, sx, ↓ty, ↓reduceIte, Nat.reduceEqDiff, Nat.reduceAdd, ls, bs, and_self, Nat.reduceAdd, Nat.le_refl, pi]
  refine CallT.mk (t := ⟨⟩) (in_n [49] [50]) ?_
  simp (maxSteps := 10000000) only [↓sx, sx]
  refine CallT.mk (t := ⟨⟩) (in_n [53] [54]) ?_
  simp (maxSteps := 10000000) only [↓sx, sx, ↓ty, ↓reduceIte, Nat.reduceEqDiff, Nat.reduceAdd, Nat.reduceLeDiff, Nat.reduceMul, ne_eq, not_false_eq_true, ls, and_self, Nat.reduceAdd, Nat.le_refl, pi]
  refine CallT.mk (t := ⟨⟩) (hull_n [([49], [50]), ([53], [54])] (by simp) (by simp)) ?_
  rw [aw_hull]
  simp (maxSteps := 10000000) only [↓sx, sx, ↓ty, ↓reduceIte, Nat.reduceEqDiff, Nat.reduceAdd, pc, ls, bs, and_self, Nat.reduceAdd, Nat.le_refl, pi]
  refine CallT.mk (t := ⟨⟩) (exact_n [49, 47, 50] (by simp)) ?_
  rw [aw_rat, if_pos rfl]
  simp (maxSteps := 10000000) only [↓sx, sx, ↓ty, ↓reduceIte, Nat.reduceEqDiff, Nat.reduceAdd, Nat.reduceLT, pc, ls, bs, and_self, Nat.reduceAdd, Nat.le_refl, pi, la, beq_self_eq_true, w4, Int.reduceAdd]
  refine CallT.mk (t := ⟨⟩) (in_n [45, 52] [56]) ?_
  simp (maxSteps := 10000000) only [↓sx, sx, ↓ty, ↓reduceIte, Nat.reduceEqDiff, Nat.reduceAdd, Nat.reduceLT, ls, bs, Nat.reduceAdd, Nat.le_refl, pi, ag, beq_self_eq_true]
  refine CallT.mk (t := ⟨⟩) (in_n [48] [52]) ?_
  simp (maxSteps := 10000000) only [↓sx, sx, ↓ty, ↓reduceIte, Nat.reduceEqDiff, Nat.reduceAdd, Nat.reduceLT, ls, bs, Nat.reduceAdd, Nat.le_refl, pi, ag, beq_self_eq_true]
  refine CallT.mk (t := ⟨⟩) (in_n [45, 49] [45, 49, 47, 52]) ?_
  simp (maxSteps := 10000000) only [↓sx, sx, ↓ty, ↓reduceIte, Nat.reduceEqDiff, Nat.reduceAdd, Nat.reduceLT, ls, bs, Nat.reduceAdd, Nat.le_refl, pi, ag, beq_self_eq_true]
  refine CallT.mk (t := ⟨⟩) (in_n [51, 47, 49, 48] [49, 47, 50]) ?_
  simp (maxSteps := 10000000) only [↓sx, sx, ↓ty, ↓reduceIte, Nat.reduceEqDiff, Nat.reduceAdd, Nat.reduceLT, ls, bs, Nat.reduceAdd, Nat.le_refl, pi, ag, beq_self_eq_true]
  refine CallT.mk (t := ⟨⟩) (in_n [52] [54]) ?_
  simp (maxSteps := 10000000) only [↓sx, sx, ↓ty, ↓reduceIte, Nat.reduceEqDiff, Nat.reduceAdd, Nat.reduceLT, ls, bs, Nat.reduceAdd, Nat.le_refl, pi, ag, beq_self_eq_true]
  refine CallT.mk (t := ⟨⟩) (in_n [45, 51] [45, 49]) ?_
  simp (maxSteps := 10000000) only [↓sx, sx, ↓ty, ↓reduceIte, Nat.reduceEqDiff, Nat.reduceAdd, Nat.reduceLT, ls, bs, Nat.reduceAdd, Nat.le_refl, pi, ag, beq_self_eq_true]
  refine CallT.mk (t := ⟨⟩) (in_n [50] [51]) ?_
  simp (maxSteps := 10000000) only [↓sx, sx, ↓ty, ↓reduceIte, Nat.reduceEqDiff, Nat.reduceAdd, Nat.reduceLT, ls, bs, Nat.reduceAdd, Nat.le_refl, pi, ag, beq_self_eq_true]
  refine CallT.mk (t := ⟨⟩) (in_n [49] [54]) ?_
  simp (maxSteps := 10000000) only [↓sx, sx, ↓ty, ↓reduceIte, Nat.reduceEqDiff, Nat.reduceAdd, Nat.reduceLT, ls, bs, Nat.reduceAdd, Nat.le_refl, pi, ag, beq_self_eq_true]
  refine CallT.mk (t := ⟨⟩) (in_n [49, 47, 50] [49, 47, 50]) ?_
  simp (maxSteps := 10000000) only [↓sx, sx, ↓ty, ↓reduceIte, Nat.reduceEqDiff, Nat.reduceAdd, Nat.reduceLT, ls, bs, Nat.reduceAdd, Nat.le_refl, pi, ag, beq_self_eq_true]
  refine CallT.mk (t := ⟨⟩) (ivalid2_n [49, 47, 50] [49, 47, 50] (by simp) (by simp)) ?_
  rw [aw_iv]
  simp (maxSteps := 10000000) only [↓sx, sx, ↓ty, ↓reduceIte, Nat.reduceEqDiff, Nat.reduceAdd, Nat.reduceLT, ls, Nat.reduceAdd, Nat.le_refl]
  refine CallT.mk (t := ⟨⟩) (has_n [49, 47, 50] [49, 47, 50] [49, 47, 50] (by simp) (by simp) (by simp)) ?_
  rw [aw_iv, aw_rat, aw_self]
  simp (maxSteps := 10000000) only [↓sx, sx, ↓reduceIte, Nat.reduceEqDiff]
end Go.Proofs.YtkfmneenhochhaaGreatDoor.S
namespace Go.Sx
open Go Go.RowKit Go.ChangeShapes Go.WideShapes Go.Shelf Go.Proofs
inductive Sh where
  | str
  | bool
  | int (k : IntKind)
  | agg (l : List Sh)
  | sl (e : Sh)
mutual
def shB (P : Program) : TypeId → Sh → Bool
  | t, .str => match P.underlying t with | some .string => true | _ => false
  | t, .bool => match P.underlying t with | some .bool => true | _ => false
  | t, .int k => match P.underlying t with | some (.int k') => decide (k' = k) | _ => false
  | t, .agg l => match P.underlying t with | some (.struct fs) => shsB P 0 (P.cellsOf t) (fs.toList.map fun f => (f.offset, f.type)) l | _ => false
  | t, .sl e => match P.underlying t with | some (.slice te) => decide (0 < P.cellsOf te) && shB P te e | _ => false
def shsB (P : Program) : Nat → Nat → List (Nat × TypeId) → List Sh → Bool
  | o, n, [], [] => decide (o = n)
  | o, n, f :: fs, s :: l => decide (f.1 = o) && shB P f.2 s && shsB P (o + P.cellsOf f.2) n fs l
  | _, _, _, _ => false
end
mutual
def Fit : Sh → List PV → Prop
  | .str, cs => ∃ s : ByteArray, cs = [.val (.string s)] ∧ s.size ≤ maxLen
  | .bool, cs => ∃ b, cs = [.val (.bool b)]
  | .int k, cs => ∃ n, cs = [.val (.int k n)] ∧ (Lit.int k n).wf = true
  | .agg l, cs => Fits l cs
  | .sl e, cs => ∃ ls : List (List PV), cs = [.sl ls.length ls.flatten] ∧ ls.length ≤ maxLen ∧ ∀ x ∈ ls, Fit e x
def Fits : List Sh → List PV → Prop
  | [], cs => cs = []
  | s :: l, cs => ∃ a b, cs = a ++ b ∧ Fit s a ∧ Fits l b
end
def Fit1 : Sh → PV → Prop
  | .agg l, x => ∃ cs, x = .agg cs ∧ Fits l cs
  | s, x => Fit s [x]
def FitA : List Sh → List PV → Prop
  | [], xs => xs = []
  | s :: l, xs => ∃ y ys, xs = y :: ys ∧ Fit1 s y ∧ FitA l ys
section
variable {H : Type} {enc : TypeId × Value → H} {P : Program} {W : World} {sp : Nat → Bool} {held : Bool}
theorem cell_lt {a : Addr} {v : Value} (h : W.cell? a = some v) : a.block < W.heap.size ∧ a.spot = none := by
  unfold World.cell? at h
  split at h
  · rename_i c _ _ hc
    refine ⟨(Array.getElem?_eq_some_iff.1 hc).1, ?_⟩
    split at h
    · cases h
    · rename_i hs
      cases hq : a.spot with
      | none => rfl
      | some x => rw [hq] at hs; simp at hs
  · cases h
theorem RepL.one {B : Nat → Prop} {x : PV} {v : Value} (h : RepP B W x v) : RepL B W [x] [v] := by
  simp only [RepL]
  exact ⟨v, [], rfl, h, rfl⟩
theorem addr_add (a : Addr) (i j : Nat) : (a.add i).add j = a.add (i + j) := by
  by_cases h1 : i = 0
  · subst h1; simp [Addr.add]
  · by_cases h2 : j = 0
    · subst h2; simp [Addr.add]
    · simp [Addr.add, h1, h2, show ¬ i + j = 0 by omega, Nat.add_assoc]
theorem rows_open {te : TypeId} {n : Nat} {a : Addr} {len : Nat} {elems : List (DataW H × List MemPlace)} (R : List PV → Prop) (hlen : elems.length = len)
    (hel : ∀ i, i < len → (W.cells? 0 (a.add (i * P.cellsOf te)) (P.cellsOf te)).bind (DataW.trod enc P W 0 sp held n te) = elems[i]?)
    (ho : ∀ cs x, DataW.trod enc P W 0 sp held n te cs = some x → ∃ pcs, RepL (· < W.heap.size) W pcs cs ∧ R pcs) :
    ∀ m, m ≤ len → ∃ (ls : List (List PV)) (vs : List Value), ls.length = m ∧ vs.length = m * P.cellsOf te ∧ RepL (· < W.heap.size) W ls.flatten vs ∧ (∀ j v, vs[j]? = some v → W.cell? (a.add j) = some v) ∧ ∀ x ∈ ls, R x
  | 0, _ => ⟨[], [], rfl, by simp, by simp [RepL], by simp, by simp⟩
  | m + 1, hm => by
    obtain ⟨ls, vs, h1, h2, h3, h4, h5⟩ := rows_open R hlen hel ho m (by omega)
    have hi := hel m (by omega)
    rw [List.getElem?_eq_getElem (show m < elems.length by omega)] at hi
    obtain ⟨cs, hcs, ht⟩ := Option.bind_eq_some_iff.1 hi
    obtain ⟨_, hcl, hcc⟩ := World.cells?_some hcs
    obtain ⟨pcs, hr, hR⟩ := ho cs _ ht
    refine ⟨ls ++ [pcs], vs ++ cs, by simp [h1], by rw [List.length_append, h2, hcl, Nat.succ_mul], ?_, ?_, ?_⟩
    · rw [List.flatten_append]
      exact RepL.append h3 (by simpa using hr)
    · intro j v hj
      by_cases hjl : j < vs.length
      · rw [List.getElem?_append_left hjl] at hj
        exact h4 j v hj
      · rw [List.getElem?_append_right (by omega)] at hj
        have hjc : j - vs.length < cs.length := (List.getElem?_eq_some_iff.1 hj).1
        have := hcc (j - vs.length) (by omega)
        rw [← hj, ← this]
        congr 1
        rw [addr_add, h2, show m * P.cellsOf te + (j - m * P.cellsOf te) = j by rw [h2] at hjl; omega]
    · intro x hx
      rcases List.mem_append.1 hx with hx | hx
      · exact h5 x hx
      · rw [List.mem_singleton] at hx
        rw [hx]; exact hR
mutual
theorem openS : ∀ (s : Sh) (t : TypeId) (fuel : Nat) (cs : List Value) (x : DataW H × List MemPlace), shB P t s = true → DataW.trod enc P W 0 sp held fuel t cs = some x → ∃ pcs, RepL (· < W.heap.size) W pcs cs ∧ Fit s pcs
  | .str, t, fuel, cs, x, hs, h => by
    unfold shB at hs
    split at hs
    · rename_i hu
      obtain ⟨s, rfl, rfl, hm⟩ := DataW.trod_string hu h
      exact ⟨[.val (.string s)], RepL.one (by simp [RepP]), by simp only [Fit]; exact ⟨s, rfl, hm⟩⟩
    · cases hs
  | .bool, t, fuel, cs, x, hs, h => by
    unfold shB at hs
    split at hs
    · rename_i hu
      obtain ⟨b, rfl, rfl⟩ := DataW.trod_bool hu h
      exact ⟨[.val (.bool b)], RepL.one (by simp [RepP]), by simp only [Fit]; exact ⟨b, rfl⟩⟩
    · cases hs
  | .int k, t, fuel, cs, x, hs, h => by
    unfold shB at hs
    split at hs
    · rename_i k' hu
      obtain rfl := of_decide_eq_true hs
      obtain ⟨n, rfl, rfl, hw⟩ := DataW.trod_int hu h
      exact ⟨[.val (.int k' n)], RepL.one (by simp [RepP]), by simp only [Fit]; exact ⟨n, rfl, hw⟩⟩
    · cases hs
  | .agg l, t, fuel, cs, x, hs, h => by
    unfold shB at hs
    split at hs
    · rename_i fs hu
      obtain ⟨xs, n, _, _, hl, hlen, hf⟩ := DataW.trod_struct hu h
      have := openSs l (fs.toList.map fun f => (f.offset, f.type)) 0 (P.cellsOf t) n cs hs hl fun i f hi => by
        rw [List.getElem?_map, Option.map_eq_some_iff] at hi
        obtain ⟨g, hg, rfl⟩ := hi
        rw [Array.getElem?_toList] at hg
        have h2 := hf i g hg
        have hi : i < fs.size := (Array.getElem?_eq_some_iff.1 hg).1
        rw [List.getElem?_eq_getElem (by omega)] at h2
        exact ⟨_, h2⟩
      simpa only [Fit, List.drop_zero] using this
    · cases hs
  | .sl e, t, fuel, cs, x, hs, h => by
    unfold shB at hs
    split at hs
    · rename_i te hu
      rw [Bool.and_eq_true, decide_eq_true_eq] at hs
      simp only [Fit]
      rcases DataW.trod_slice hu h with ⟨rfl, _⟩ | ⟨a, len, cap, elems, rest, n, _, rfl, _, _, hl, hm, hlen, hel, _⟩
      · refine ⟨[.sl 0 []], RepL.one ?_, [], rfl, by simp, by simp⟩
        simp only [RepP]
        exact ⟨none, 0, rfl, Nat.le_refl _, .inl rfl, .inl trivial⟩
      · obtain ⟨ls, vs, h1, h2, h3, h4, h5⟩ := rows_open (Fit e) hlen hel (fun cs x ht => openS e te n cs x hs.2 ht) len (Nat.le_refl _)
        refine ⟨[.sl ls.length ls.flatten], RepL.one ?_, ls, rfl, by omega, h5⟩
        simp only [RepP]
        refine ⟨some a, cap, by rw [h1], by omega, .inr (by simp), ?_⟩
        cases vs with
        | nil =>
          left
          have := h3.length
          exact List.eq_nil_of_length_eq_zero this.symm
        | cons v vs =>
          right
          have h0 := h4 0 v rfl
          obtain ⟨q1, q2⟩ := cell_lt h0
          obtain ⟨b, o, sp⟩ := a
          simp only [Addr.add] at q1 q2
          subst q2
          refine ⟨b, o, rfl, q1, RepC.of_vals h3 fun j v hj => ?_⟩
          have := h4 j v hj
          have e : (⟨b, o, none⟩ : Addr).add j = ⟨b, o + j, none⟩ := by
            unfold Addr.add
            split
            · subst_vars; rfl
            · rfl
          rwa [e] at this
    · cases hs
theorem openSs : ∀ (l : List Sh) (fs : List (Nat × TypeId)) (o n fuel : Nat) (cs : List Value), shsB P o n fs l = true → cs.length = n → (∀ (i : Nat) f, fs[i]? = some f → ∃ y, DataW.trod enc P W 0 sp held fuel f.2 ((cs.drop f.1).take (P.cellsOf f.2)) = some y) →
    ∃ pcs, RepL (· < W.heap.size) W pcs (cs.drop o) ∧ Fits l pcs
  | [], [], o, n, fuel, cs, hs, hn, _ => by
    simp only [shsB, decide_eq_true_eq] at hs
    refine ⟨[], ?_, by simp [Fits]⟩
    rw [List.drop_eq_nil_of_le (by omega)]
    simp [RepL]
  | s :: l, f :: fs, o, n, fuel, cs, hs, hn, hf => by
    simp only [shsB, Bool.and_eq_true, decide_eq_true_eq] at hs
    obtain ⟨⟨rfl, h2⟩, h3⟩ := hs
    obtain ⟨y, hy⟩ := hf 0 f rfl
    obtain ⟨p1, r1, f1⟩ := openS s f.2 fuel _ y h2 hy
    obtain ⟨p2, r2, f2⟩ := openSs l fs (f.1 + P.cellsOf f.2) n fuel cs h3 hn fun i g hg => hf (i + 1) g (by simpa using hg)
    refine ⟨p1 ++ p2, ?_, by simp only [Fits]; exact ⟨p1, p2, rfl, f1, f2⟩⟩
    have := RepL.append r1 r2
    rwa [← List.drop_drop, List.take_append_drop] at this
  | [], _ :: _, o, n, fuel, cs, hs, _, _ => by simp [shsB] at hs
  | _ :: _, [], o, n, fuel, cs, hs, _, _ => by simp [shsB] at hs
end
theorem openV {base : Nat} (s : Sh) (t : TypeId) (v : Value) (d : DataW H) (ps : List MemPlace) (hs : shB P t s = true) (hok : Value.okWide P W .any base t v) (h : DataW.Trod enc P W 0 sp held t v d ps) :
    ∃ x, RepP (· < W.heap.size) W x v ∧ Fit1 s x := by
  obtain ⟨fuel, hv⟩ := h
  obtain ⟨pcs, hr, hf⟩ := openS s t fuel _ _ hs hv
  cases s with
  | agg l =>
    unfold shB at hs
    split at hs
    · rename_i fs hu
      simp only [Value.okWide, hu] at hok
      obtain ⟨cs, rfl, _, _⟩ := hok
      refine ⟨.agg pcs, ?_, pcs, rfl, by simpa only [Fit] using hf⟩
      simp only [RepP]
      exact ⟨cs.toList, rfl, hr⟩
    · cases hs
  | str =>
    simp only [Fit] at hf
    obtain ⟨s, rfl, hm⟩ := hf
    unfold shB at hs
    split at hs
    · rename_i hu
      simp only [RepL, RepP] at hr
      obtain ⟨y, ys, hc, rfl, rfl⟩ := hr
      have : v = .string s := by
        cases v <;> simp [Value.cells, Value.okWide, hu, Cell.okWide, Cell.ok] at hc hok ⊢
        exact hc
      subst this
      exact ⟨.val (.string s), by simp [RepP], by simp only [Fit1, Fit]; exact ⟨s, rfl, hm⟩⟩
    · cases hs
  | bool =>
    simp only [Fit] at hf
    obtain ⟨s, rfl⟩ := hf
    unfold shB at hs
    split at hs
    · rename_i hu
      simp only [RepL, RepP] at hr
      obtain ⟨y, ys, hc, rfl, rfl⟩ := hr
      have : v = .bool s := by
        cases v <;> simp [Value.cells, Value.okWide, hu, Cell.okWide, Cell.ok] at hc hok ⊢
        exact hc
      subst this
      exact ⟨.val (.bool s), by simp [RepP], by simp only [Fit1, Fit]; exact ⟨s, rfl⟩⟩
    · cases hs
  | int k =>
    simp only [Fit] at hf
    obtain ⟨s, rfl, hm⟩ := hf
    unfold shB at hs
    split at hs
    · rename_i k' hu
      simp only [RepL, RepP] at hr
      obtain ⟨y, ys, hc, rfl, rfl⟩ := hr
      have : v = .int k s := by
        cases v <;> simp [Value.cells, Value.okWide, hu, Cell.okWide, Cell.ok] at hc hok ⊢
        exact hc
      subst this
      exact ⟨.val (.int k s), by simp [RepP], by simp only [Fit1, Fit]; exact ⟨s, rfl, hm⟩⟩
    · cases hs
  | sl e =>
    unfold shB at hs
    split at hs
    · rename_i te hu
      have hf' := hf
      simp only [Fit] at hf
      obtain ⟨ls, rfl, hm, hx⟩ := hf
      simp only [RepL] at hr
      obtain ⟨y, ys, hc, hr, rfl⟩ := hr
      have : v = y := by
        cases v <;> simp [Value.cells, Value.okWide, hu, Cell.okWide, Cell.ok] at hc hok ⊢ <;> first | exact hc | skip
      subst this
      exact ⟨_, hr, by simp only [Fit1]; exact hf'⟩
    · cases hs
def shAB (P : Program) : List TypeId → List Sh → Bool
  | [], [] => true
  | t :: ts, s :: l => shB P t s && shAB P ts l
  | _, _ => false
theorem openA {base : Nat} : ∀ (l : List Sh) (ts : List TypeId) (vs : List Value) (ds : List (DataW H)) (ps : List MemPlace), shAB P ts l = true → (∀ (j : Nat) t v, ts[j]? = some t → vs[j]? = some v → Value.okWide P W .any base t v) → DataW.TrodAll enc P W 0 sp held ts vs ds ps →
    ∃ xs, RepL (· < W.heap.size) W xs vs ∧ FitA l xs
  | [], [], [], [], ps, _, _, _ => ⟨[], by simp [RepL], by simp [FitA]⟩
  | s :: l, t :: ts, v :: vs, d :: ds, ps, hs, hok, h => by
    simp only [shAB, Bool.and_eq_true] at hs
    obtain ⟨p, q, h1, h2, rfl⟩ := h
    obtain ⟨x, rx, fx⟩ := openV s t v d p hs.1 (hok 0 t v rfl rfl) h1
    obtain ⟨xs, rxs, fxs⟩ := openA l ts vs ds q hs.2 (fun j t v h1 h2 => hok (j + 1) t v (by simpa using h1) (by simpa using h2)) h2
    refine ⟨x :: xs, ?_, by simp only [FitA]; exact ⟨x, xs, rfl, fx, fxs⟩⟩
    simp only [RepL]
    exact ⟨v, vs, rfl, rx, rxs⟩
  | [], _ :: _, _, _, _, hs, _, _ => by simp [shAB] at hs
  | _ :: _, [], _, _, _, hs, _, _ => by simp [shAB] at hs
  | [], [], _ :: _, _, _, _, _, h => h.elim
  | [], [], [], _ :: _, _, _, _, h => h.elim
  | _ :: _, _ :: _, [], _, _, _, _, h => h.elim
  | _ :: _, _ :: _, _ :: _, [], _, _, _, h => h.elim
theorem below_trodAll (hl : laidOutB P = true) {W' : World} (hb : Below W.heap.size W W') : ∀ {ts : List TypeId} {vs : List Value} {ds : List (DataW H)} {ps : List MemPlace}, (ts.all fun t => P.readableRec t && decide (t < P.types.size)) = true →
    DataW.TrodAll enc P W 0 (fun _ => true) true ts vs ds ps → DataW.TrodAll enc P W' 0 (fun b => decide (b < W.heap.size)) true ts vs ds ps
  | [], [], [], _, _, h => h
  | t :: ts, v :: vs, d :: ds, ps, ht, h => by
    have hlt := DataW.TrodAll.lt h
    obtain ⟨p, q, h1, h2, rfl⟩ := h
    rw [List.all_cons, Bool.and_eq_true, Bool.and_eq_true, decide_eq_true_eq] at ht
    exact ⟨p, q, Below.trod hl ht.1.1 ht.1.2 h1 hb fun x hx => hlt x (List.mem_append_left _ hx), below_trodAll hl hb ht.2 h2, rfl⟩
  | [], _ :: _, _, _, _, h => h.elim
  | [], [], _ :: _, _, _, h => h.elim
  | _ :: _, [], _, _, _, h => h.elim
  | _ :: _, _ :: _, [], _, _, h => h.elim
theorem law_calls {G : World → Prop} {f : FuncId} {base : Nat} {l : List Sh} {ts : List TypeId} {vs : List Value} {ds : List (DataW H)} {ps : List MemPlace} (hs : shAB P ts l = true) (law : ∀ xs, FitA l xs → Meets P G f xs (.val (.bool true)))
    (hok : ∀ (j : Nat) t v, ts[j]? = some t → vs[j]? = some v → Value.okWide P W .any base t v) (h : DataW.TrodAll enc P W 0 sp held ts vs ds ps) (hG : G W) :
    Calls P f ⟨vs⟩ W fun e W' => e = .returned (.bool true) ∧ Below W.heap.size W W' := by
  obtain ⟨xs, hr, hf⟩ := openA l ts vs ds ps hs hok h
  refine ((law xs hf).calls _ vs W (fun b hb => hb) hr hG).mono fun e W' ⟨v, he, hv, hb⟩ => ?_
  simp only [RepP] at hv
  subst hv
  exact ⟨he, hb⟩
end
def CloneC (P : Program) (F el : TypeId) (sz : Nat) : Prop := ∀ (v : Value) (n : Nat) (us : List Value) (w : World), ((v = .slice none 0 0 ∧ n = 0 ∧ us = []) ∨ ∃ ad c, v = .slice (some ad) n c ∧ us.length = n * sz ∧ (∀ j u, us[j]? = some u → w.cell? (ad.add j) = some u)) → (∀ u ∈ us, u.oneCell' = true) → n ≤ 1000000 →
  Calls P F #[v] w fun e w' => ∃ x, e = .returned x ∧ Below w.heap.size w w' ∧ w'.ownsRow w.heap.size el sz x n us
theorem clone_args {B : Nat → Prop} {w : World} {n sz : Nat} {cs : List PV} {v : Value} (hv : RepP B w (.sl n cs) v) (hl : cs.length = n * sz) : ∃ us, RepL B w cs us ∧ ((v = .slice none 0 0 ∧ n = 0 ∧ us = []) ∨ ∃ ad c, v = .slice (some ad) n c ∧ us.length = n * sz ∧ (∀ j u, us[j]? = some u → w.cell? (ad.add j) = some u)) := by
  simp only [RepP] at hv
  obtain ⟨a, c, rfl, h1, h2, h3⟩ := hv
  cases a with
  | none =>
    have hc : c = 0 := by
      rcases h2 with h | h
      · exact h
      · exact absurd rfl h
    subst hc
    have hn : n = 0 := by omega
    subst hn
    have : cs = [] := List.eq_nil_of_length_eq_zero (by rw [hl]; simp)
    subst this
    exact ⟨[], by simp [RepL], .inl ⟨rfl, rfl, rfl⟩⟩
  | some ad =>
    rcases h3 with rfl | ⟨b, o, e, hb, hr⟩
    · exact ⟨[], by simp [RepL], .inr ⟨ad, c, rfl, by simpa using hl, by simp⟩⟩
    · cases e
      obtain ⟨us, hu, hc⟩ := repC_cells hr
      exact ⟨us, hu, .inr ⟨_, c, rfl, by rw [hu.length, hl], hc⟩⟩
theorem ownsRow_zero {w : World} {b : Nat} {el : TypeId} {sz n : Nat} {x : Value} {us : List Value} (h : w.ownsRow b el sz x n us) : w.ownsRow 0 el sz x n us ∧ ∀ g, x.ownBlock = some g → b ≤ g ∧ g < w.heap.size := by
  refine ⟨⟨h.1, ?_⟩, h.lt⟩
  rcases h.2 with h | ⟨g, cap, cur, h1, _, h2⟩
  · exact .inl h
  · exact .inr ⟨g, cap, cur, h1, Nat.zero_le _, h2⟩
theorem clone_r {P : Program} {G : World → Prop} {F el : TypeId} {sz : Nat} (he : Enters P F) (h : CloneC P F el sz) {n : Nat} {cs : List PV} (hl : cs.length = n * sz) (hf : cs.all leafP = true) (hn : n ≤ 1000000) : MeetsR P G F [.sl n cs] ⟨el, sz, n, cs, false⟩ := by
  refine ⟨he, fun B vs w hB hr hG => ?_⟩
  simp only [RepL] at hr
  obtain ⟨v, _, rfl, hv, rfl⟩ := hr
  obtain ⟨us, hu, hc⟩ := clone_args hv hl
  refine (h v n us w hc (leaf_one hu hf) hn).mono fun e w' ⟨x, h1, h2, h3⟩ => ?_
  obtain ⟨h4, h5⟩ := ownsRow_zero h3
  refine ⟨x, us, h1, h2, h4, RepL.mono (fun b hb => ?_) _ _ hu, fun g hg => (h5 g hg).1⟩
  have hb1 := hB b hb
  refine ⟨⟨.inl hb, Nat.lt_of_lt_of_le hb1 h2.size, fun e => ?_⟩, h2.block _ hb1⟩
  have := (h5 b e).1
  omega
theorem clone_m {P : Program} {G : World → Prop} {F el : TypeId} {sz : Nat} (he : Enters P F) (h : CloneC P F el sz) {n : Nat} {cs : List PV} (hl : cs.length = n * sz) (hf : cs.all leafP = true) (hn : n ≤ 1000000) : Meets P G F [.sl n cs] (.sl n cs) := by
  refine ⟨he, fun B vs w hB hr hG => ?_⟩
  simp only [RepL] at hr
  obtain ⟨v, _, rfl, hv, rfl⟩ := hr
  obtain ⟨us, hu, hc⟩ := clone_args hv hl
  refine (h v n us w hc (leaf_one hu hf) hn).mono fun e w' ⟨x, h1, h2, h3⟩ => ?_
  obtain ⟨h4, h5⟩ := ownsRow_zero h3
  refine ⟨x, h1, ownsRow_slice h4 (RepL.mono (fun b hb => ?_) _ _ hu) fun g hg => ?_, h2⟩
  · have hb1 := hB b hb
    exact ⟨⟨.inl hb, Nat.lt_of_lt_of_le hb1 h2.size⟩, h2.block _ hb1⟩
  · exact ⟨.inr (h5 g hg).1, (h5 g hg).2⟩
end Go.Sx
namespace Gb
open Go Go.RowKit Go.Sx
theorem str_eta (s : ByteArray) : (⟨s.data.toList.toArray⟩ : ByteArray) = s := by cases s; simp
theorem fit_str {x : PV} (h : Fit1 .str x) : ∃ a : List UInt8, x = strP a ∧ a.length ≤ maxLen := by
  simp only [Fit1, Fit] at h
  obtain ⟨s, h1, h2⟩ := h
  rw [List.cons.injEq] at h1
  exact ⟨s.data.toList, by rw [h1.1]; unfold strP; rw [str_eta], by rw [Array.length_toList]; exact h2⟩
theorem fit_int {k : IntKind} {x : PV} (h : Fit1 (.int k) x) : ∃ n, x = .val (.int k n) ∧ (Lit.int k n).wf = true := by
  simp only [Fit1, Fit] at h
  obtain ⟨n, h1, h2⟩ := h
  rw [List.cons.injEq] at h1
  exact ⟨n, h1.1, h2⟩
theorem fit_i {x : PV} (h : Fit1 (.int .i64) x) : ∃ n : Int, x = iP n ∧ -9223372036854775808 ≤ n ∧ n ≤ 9223372036854775807 := by
  obtain ⟨n, h1, h2⟩ := fit_int h
  exact ⟨n, h1, bounds_i64 h2⟩
theorem fits_iv {cs : List PV} (h : Fits [.str, .str] cs) : ∃ a b : List UInt8, cs = cell2 (a, b) := by
  simp only [Fits, Fit] at h
  obtain ⟨_, _, rfl, ⟨s, rfl, _⟩, _, _, rfl, ⟨t, rfl, _⟩, rfl⟩ := h
  exact ⟨s.data.toList, t.data.toList, by simp only [cell2, str_eta]; rfl⟩
theorem fit_iv {x : PV} (h : Fit1 (.agg [.str, .str]) x) : ∃ a b : List UInt8, x = ivP a b := by
  obtain ⟨cs, rfl, h⟩ := h
  obtain ⟨a, b, rfl⟩ := fits_iv h
  exact ⟨a, b, rfl⟩
theorem flat_of : ∀ {ls : List (List PV)}, (∀ x ∈ ls, Fit (.agg [.str, .str]) x) → ∃ l : List TT2, ls.flatten = flat l ∧ l.length = ls.length
  | [], _ => ⟨[], rfl, rfl⟩
  | x :: ls, h => by
    have h1 := h x (List.mem_cons_self ..)
    simp only [Fit] at h1
    obtain ⟨a, b, rfl⟩ := fits_iv h1
    obtain ⟨l, h2, h3⟩ := flat_of fun y hy => h y (List.mem_cons_of_mem _ hy)
    exact ⟨(a, b) :: l, by rw [List.flatten_cons, h2]; rfl, by simp [h3]⟩
theorem fit_ivs {x : PV} (h : Fit1 (.sl (.agg [.str, .str])) x) : ∃ l : List TT2, x = .sl l.length (flat l) ∧ l.length ≤ maxLen := by
  simp only [Fit1, Fit] at h
  obtain ⟨ls, h1, h2, h3⟩ := h
  rw [List.cons.injEq] at h1
  obtain ⟨l, h4, h5⟩ := flat_of (ls := ls) (fun y hy => by have := h3 y hy; simpa only [Fit] using this)
  exact ⟨l, by rw [h1.1, h4, h5], by omega⟩
theorem texts_of : ∀ {ls : List (List PV)}, (∀ x ∈ ls, Fit .str x) → ∃ l : List (List UInt8), ls.flatten = texts l ∧ l.length = ls.length
  | [], _ => ⟨[], rfl, rfl⟩
  | x :: ls, h => by
    have h1 := h x (List.mem_cons_self ..)
    simp only [Fit] at h1
    obtain ⟨s, rfl, _⟩ := h1
    obtain ⟨l, h2, h3⟩ := texts_of fun y hy => h y (List.mem_cons_of_mem _ hy)
    exact ⟨s.data.toList :: l, by rw [List.flatten_cons, h2]; simp only [texts, List.map_cons, strP, str_eta]; rfl, by simp [h3]⟩
theorem fit_strs {x : PV} (h : Fit1 (.sl .str) x) : ∃ l : List (List UInt8), x = .sl l.length (texts l) ∧ l.length ≤ maxLen := by
  simp only [Fit1, Fit] at h
  obtain ⟨ls, h1, h2, h3⟩ := h
  rw [List.cons.injEq] at h1
  obtain ⟨l, h4, h5⟩ := texts_of (ls := ls) (fun y hy => by have := h3 y hy; simpa only [Fit] using this)
  exact ⟨l, by rw [h1.1, h4, h5], by omega⟩
theorem fita_nil {xs : List PV} (h : FitA [] xs) : xs = [] := h
theorem fita_cons {s : Sh} {l : List Sh} {xs : List PV} (h : FitA (s :: l) xs) : ∃ y ys, xs = y :: ys ∧ Fit1 s y ∧ FitA l ys := h
end Gb
namespace Gb
open Go Go.RowKit Go.Sx
theorem wideB_no {p : TT2} (h : wideB p = false) : p.1.length ≤ 40 ∧ p.2.length ≤ 40 := by
  unfold wideB longB at h
  simp only [Bool.or_eq_false_iff, decide_eq_false_iff_not] at h
  omega
theorem longB_no {a : List UInt8} (h : longB a = false) : a.length ≤ 40 := by
  unfold longB at h
  simp only [decide_eq_false_iff_not] at h
  omega
theorem isign_form (a b : List UInt8) : ∃ n s e, isignP a b = .tup [iP n, .val (.bool s), iP e] := by
  unfold isignP
  split
  · split
    · exact ⟨_, _, _, rfl⟩
    · split
      · exact ⟨_, _, _, rfl⟩
      · exact ⟨_, _, _, rfl⟩
  · exact ⟨_, _, _, rfl⟩
theorem exact_form (a : List UInt8) : ∃ p q e, (if isRat a then PV.tup [ivP a a, iP 0] else .tup [ivP [] [], iP 1]) = .tup [ivP p q, iP e] := by
  split
  · exact ⟨_, _, _, rfl⟩
  · exact ⟨_, _, _, rfl⟩
end Gb
namespace Go.Proofs.YtkfmneenhochhaaGreatDoor.S
open Go Go.Sx Go.RowKit Gb Go.Shelf
theorem wide_1 (a b : List UInt8) : Meets Tryz.prog Gd 11 [.sl 1 [.val (.string ⟨a.toArray⟩), .val (.string ⟨b.toArray⟩)]] (.val (.bool (wideB (a, b)))) := by
  have := wideL_n [(a, b)] (by simp)
  rw [show [(a, b)].any wideB = wideB (a, b) by simp] at this
  exact this
theorem long_1 (x : List UInt8) : Meets Tryz.prog Gd 12 [.sl 1 [.val (.string ⟨x.toArray⟩)]] (.val (.bool (longB x))) := by
  have := longL_n [x] (by simp)
  rw [show [x].any longB = longB x by simp] at this
  exact this
set_option maxRecDepth 100000 in
set_option maxHeartbeats 8000000 in
theorem forms_n (a b x : List UInt8) : Meets Tryz.prog Gd 3 [ivP a b, strP x] (.val (.bool true)) := by
  refine meets_of_vc (Y := {}) (N := 89) (rs := [.tmp 4]) mix tk gd Tryz.func3 rfl (by kernel_rfl) rfl rfl (by simp) (by kernel_rfl) ?_
  simp (maxSteps := 10000000) only [↓sx, sx, pi]
  refine CallT.mk (t := ⟨⟩) awake_n ?_
  simp (maxSteps := 10000000) only [↓sx, sx, ↓ty, ↓reduceIte, Nat.reduceEqDiff, Nat.reduceAdd, Nat.reduceLeDiff, Nat.reduceLT, Nat.reduceMul, ne_eq, not_false_eq_true, ls, and_self, Nat.reduceAdd, Nat.le_refl]
  refine CallT.mk (t := ⟨⟩) (wide_1 a b) ?_
  cases hw : wideB (a, b) with
  | true =>
    simp (maxSteps := 10000000) only [↓sx, sx, ↓reduceIte, Nat.reduceEqDiff, Nat.reduceLT]
    refine CallT.mk (t := ⟨⟩) awake_n ?_
    simp (maxSteps := 10000000) only [↓sx, sx, ↓reduceIte]
  | false =>
    simp (maxSteps := 10000000) only [↓sx, sx, ↓ty, ↓reduceIte, Nat.reduceEqDiff, Nat.reduceAdd, Nat.reduceLeDiff, Nat.reduceLT, ne_eq, not_false_eq_true, pc, ls, and_self, Nat.reduceAdd, Nat.le_refl]
    refine CallT.mk (t := ⟨⟩) (long_1 x) ?_
    cases hl : longB x with
    | true =>
      simp (maxSteps := 10000000) only [↓sx, sx, ↓reduceIte, Nat.reduceEqDiff]
      refine CallT.mk (t := ⟨⟩) awake_n ?_
      simp (maxSteps := 10000000) only [↓sx, sx, ↓reduceIte]
    | false =>
      have h1 := wideB_no hw
      have h2 := longB_no hl
      dsimp only at h1
      have X1 := exact_n x (by omega)
      have X2 := exact4_n x (by omega)
      have S1 := isign2_n a b (by omega) (by omega)
      have S2 := sign4_n a b (by omega) (by omega)
      obtain ⟨p, q, e, hx⟩ := exact_form x
      obtain ⟨n, s, e2, hs⟩ := isign_form a b
      rw [hx] at X1 X2
      rw [hs] at S1 S2
      simp (maxSteps := 10000000) only [↓sx, sx, ↓reduceIte, Nat.reduceEqDiff, pc]
      refine CallT.mk (t := ⟨⟩) X1 ?_
      simp (maxSteps := 10000000) only [↓sx, sx, ↓ty, ↓reduceIte, Nat.reduceEqDiff, Nat.reduceAdd, pc, ls, bs, and_self, Nat.reduceAdd, Nat.le_refl, pi]
      refine CallT.mk (t := ⟨⟩) X2 ?_
      simp (maxSteps := 10000000) only [↓sx, sx, ↓ty, ↓reduceIte, Nat.reduceEqDiff, Nat.reduceAdd, pc, ls, bs, and_self, Nat.reduceAdd, Nat.le_refl, pi]
      refine CallT.mk (t := ⟨⟩) S1 ?_
      simp (maxSteps := 10000000) only [↓sx, sx, ↓ty, ↓reduceIte, Nat.reduceEqDiff, Nat.reduceAdd, pc, ls, Nat.reduceAdd, Nat.le_refl]
      refine CallT.mk (t := ⟨⟩) S2 ?_
      simp (maxSteps := 10000000) only [↓sx, sx, ↓ty, ↓reduceIte, Nat.reduceEqDiff, Nat.reduceAdd, pc, ls, Nat.reduceAdd, Nat.le_refl]
      refine CallT.mk (t := ⟨⟩) (ivalid2_n a b (by omega) (by omega)) ?_
      simp (maxSteps := 10000000) only [↓sx, sx, ↓ty, ↓reduceIte, Nat.reduceEqDiff, Nat.reduceAdd, ls, Nat.reduceAdd, Nat.le_refl]
      refine CallT.mk (t := ⟨⟩) (valid4_n a b (by omega) (by omega)) ?_
      simp (maxSteps := 10000000) only [↓sx, sx, ↓ty, ↓reduceIte, Nat.reduceEqDiff, Nat.reduceAdd, Nat.reduceLT, pc, ls, Nat.reduceAdd, Nat.le_refl, beq_self_eq_true]
      refine CallT.mk (t := ⟨⟩) (has_n a b x (by omega) (by omega) (by omega)) ?_
      simp (maxSteps := 10000000) only [↓sx, sx, ↓ty, ↓reduceIte, Nat.reduceEqDiff, Nat.reduceAdd, Nat.reduceLT, pc, ls, Nat.reduceAdd, Nat.le_refl]
      refine CallT.mk (t := ⟨⟩) (has4_n a b x (by omega) (by omega) (by omega)) ?_
      simp (maxSteps := 10000000) only [↓sx, sx, ↓ty, ↓reduceIte, Nat.reduceEqDiff, Nat.reduceAdd, Nat.reduceLT, ls, bs, and_self, Nat.reduceAdd, Nat.le_refl, ag, beq_self_eq_true]
theorem forms_law (xs : List PV) (h : FitA [.agg [.str, .str], .str] xs) : Meets Tryz.prog Gd 3 xs (.val (.bool true)) := by
  obtain ⟨_, _, rfl, h1, h⟩ := fita_cons h
  obtain ⟨_, _, rfl, h2, h⟩ := fita_cons h
  obtain rfl := fita_nil h
  obtain ⟨a, b, rfl⟩ := fit_iv h1
  obtain ⟨x, rfl, _⟩ := fit_str h2
  exact forms_n a b x
end Go.Proofs.YtkfmneenhochhaaGreatDoor.S
namespace Gb
open Go Go.RowKit Go.Sx
theorem icor_form (f : Rat → Rat → Rat) (a1 a2 b1 b2 : List UInt8) : ∃ p q e, icorP f a1 a2 b1 b2 = .tup [ivP p q, iP e] := by
  unfold icorP
  split
  · exact ⟨_, _, _, rfl⟩
  · exact ⟨_, _, _, rfl⟩
theorem idiv_form (a1 a2 b1 b2 : List UInt8) : ∃ p q e, idivP a1 a2 b1 b2 = .tup [ivP p q, iP e] := by
  unfold idivP
  split
  · exact ⟨_, _, _, rfl⟩
  · exact icor_form _ _ _ _ _
theorem isq_form (a1 a2 : List UInt8) : ∃ p q e, isqP a1 a2 = .tup [ivP p q, iP e] := by
  unfold isqP
  split
  · split
    · exact ⟨_, _, _, rfl⟩
    · exact ⟨_, _, _, rfl⟩
  · exact ⟨_, _, _, rfl⟩
end Gb
namespace Go.Proofs.YtkfmneenhochhaaGreatDoor.S
open Go Go.Sx Go.RowKit Gb Go.Shelf
theorem wide_2 (a b c d : List UInt8) : Meets Tryz.prog Gd 11 [.sl 2 [.val (.string ⟨a.toArray⟩), .val (.string ⟨b.toArray⟩), .val (.string ⟨c.toArray⟩), .val (.string ⟨d.toArray⟩)]] (.val (.bool (wideB (a, b) || wideB (c, d)))) := by
  have := wideL_n [(a, b), (c, d)] (by simp)
  rw [show [(a, b), (c, d)].any wideB = (wideB (a, b) || wideB (c, d)) by simp] at this
  exact this
theorem wide2_no {a b c d : List UInt8} (h : (wideB (a, b) || wideB (c, d)) = false) : a.length ≤ 40 ∧ b.length ≤ 40 ∧ c.length ≤ 40 ∧ d.length ≤ 40 := by
  rw [Bool.or_eq_false_iff] at h
  have h1 := wideB_no h.1
  have h2 := wideB_no h.2
  exact ⟨h1.1, h1.2, h2.1, h2.2⟩
set_option maxRecDepth 100000 in
set_option maxHeartbeats 8000000 in
theorem computes_n (a b c d : List UInt8) : Meets Tryz.prog Gd 4 [ivP a b, ivP c d] (.val (.bool true)) := by
  refine meets_of_vc (Y := {}) (N := 140) (rs := [.tmp 4]) mix tk gd Tryz.func4 rfl (by kernel_rfl) rfl rfl (by simp) (by kernel_rfl) ?_
  simp (maxSteps := 10000000) only [↓sx, sx, ↓reduceIte, Nat.reduceEqDiff, pi]
  refine CallT.mk (t := ⟨⟩) awake_n ?_
  simp (maxSteps := 10000000) only [↓sx, sx, ↓ty, ↓reduceIte, Nat.reduceEqDiff, Nat.reduceAdd, Nat.reduceLeDiff, Nat.reduceLT, Nat.reduceMul, ne_eq, not_false_eq_true, ls, and_self, Nat.reduceAdd, Nat.le_refl]
  refine CallT.mk (t := ⟨⟩) (wide_2 a b c d) ?_
  cases hw : (wideB (a, b) || wideB (c, d)) with
  | true =>
    simp (maxSteps := 10000000) only [↓sx, sx, ↓reduceIte, Nat.reduceEqDiff]
    refine CallT.mk (t := ⟨⟩) awake_n ?_
    simp (maxSteps := 10000000) only [↓sx, sx, ↓reduceIte]
  | false =>
    obtain ⟨h1, h2, h3, h4⟩ := wide2_no hw
    simp (maxSteps := 10000000) only [↓sx, sx, ↓ty, ↓reduceIte, Nat.reduceEqDiff, Nat.reduceAdd, ls, Nat.reduceAdd, Nat.le_refl]
    have X1 := iadd2_n a b c d (by omega) (by omega) (by omega) (by omega)
    have X2 := add4_n a b c d (by omega) (by omega) (by omega) (by omega)
    obtain ⟨p, q, e, hx⟩ := icor_form (· + ·) a b c d
    rw [hx] at X1 X2
    refine CallT.mk (t := ⟨⟩) X1 ?_
    simp (maxSteps := 10000000) only [↓sx, sx, ↓ty, ↓reduceIte, Nat.reduceEqDiff, Nat.reduceAdd, pc, ls, bs, and_self, Nat.reduceAdd, Nat.le_refl, pi]
    refine CallT.mk (t := ⟨⟩) X2 ?_
    simp (maxSteps := 10000000) only [↓sx, sx, ↓ty, ↓reduceIte, Nat.reduceEqDiff, Nat.reduceAdd, pc, ls, bs, and_self, Nat.reduceAdd, Nat.le_refl, pi]
    clear hx X1 X2
    have X1 := isub2_n a b c d (by omega) (by omega) (by omega) (by omega)
    have X2 := sub4_n a b c d (by omega) (by omega) (by omega) (by omega)
    obtain ⟨p, q, e, hx⟩ := icor_form (· - ·) a b c d
    rw [hx] at X1 X2
    refine CallT.mk (t := ⟨⟩) X1 ?_
    simp (maxSteps := 10000000) only [↓sx, sx, ↓ty, ↓reduceIte, Nat.reduceEqDiff, Nat.reduceAdd, pc, ls, bs, and_self, Nat.reduceAdd, Nat.le_refl, pi]
    refine CallT.mk (t := ⟨⟩) X2 ?_
    simp (maxSteps := 10000000) only [↓sx, sx, ↓ty, ↓reduceIte, Nat.reduceEqDiff, Nat.reduceAdd, pc, ls, bs, and_self, Nat.reduceAdd, Nat.le_refl, pi]
    clear hx X1 X2
    have X1 := imul2_n a b c d (by omega) (by omega) (by omega) (by omega)
    have X2 := mul4_n a b c d (by omega) (by omega) (by omega) (by omega)
    obtain ⟨p, q, e, hx⟩ := icor_form (· * ·) a b c d
    rw [hx] at X1 X2
    refine CallT.mk (t := ⟨⟩) X1 ?_
    simp (maxSteps := 10000000) only [↓sx, sx, ↓ty, ↓reduceIte, Nat.reduceEqDiff, Nat.reduceAdd, pc, ls, bs, and_self, Nat.reduceAdd, Nat.le_refl, pi]
    refine CallT.mk (t := ⟨⟩) X2 ?_
    simp (maxSteps := 10000000) only [↓sx, sx, ↓ty, ↓reduceIte, Nat.reduceEqDiff, Nat.reduceAdd, pc, ls, bs, and_self, Nat.reduceAdd, Nat.le_refl, pi]
    clear hx X1 X2
    have X1 := idiv2_n a b c d (by omega) (by omega) (by omega) (by omega)
    have X2 := div4_n a b c d (by omega) (by omega) (by omega) (by omega)
    obtain ⟨p, q, e, hx⟩ := idiv_form a b c d
    rw [hx] at X1 X2
    refine CallT.mk (t := ⟨⟩) X1 ?_
    simp (maxSteps := 10000000) only [↓sx, sx, ↓ty, ↓reduceIte, Nat.reduceEqDiff, Nat.reduceAdd, pc, ls, bs, and_self, Nat.reduceAdd, Nat.le_refl, pi]
    refine CallT.mk (t := ⟨⟩) X2 ?_
    simp (maxSteps := 10000000) only [↓sx, sx, ↓ty, ↓reduceIte, Nat.reduceEqDiff, Nat.reduceAdd, pc, ls, bs, and_self, Nat.reduceAdd, Nat.le_refl, pi]
    clear hx X1 X2
    have X1 := isq_n a b (by omega) (by omega)
    have X2 := sq4_n a b (by omega) (by omega)
    obtain ⟨p, q, e, hx⟩ := isq_form a b
    rw [hx] at X1 X2
    refine CallT.mk (t := ⟨⟩) X1 ?_
    simp (maxSteps := 10000000) only [↓sx, sx, ↓ty, ↓reduceIte, Nat.reduceEqDiff, Nat.reduceAdd, pc, ls, bs, and_self, Nat.reduceAdd, Nat.le_refl, pi]
    refine CallT.mk (t := ⟨⟩) X2 ?_
    simp (maxSteps := 10000000) only [↓sx, sx, ↓ty, ↓reduceIte, Nat.reduceEqDiff, Nat.reduceAdd, Nat.reduceLT, pc, ls, bs, and_self, Nat.reduceAdd, Nat.le_refl, pi, ag, beq_self_eq_true]
theorem computes_law (xs : List PV) (h : FitA [.agg [.str, .str], .agg [.str, .str]] xs) : Meets Tryz.prog Gd 4 xs (.val (.bool true)) := by
  obtain ⟨_, _, rfl, h1, h⟩ := fita_cons h
  obtain ⟨_, _, rfl, h2, h⟩ := fita_cons h
  obtain rfl := fita_nil h
  obtain ⟨a, b, rfl⟩ := fit_iv h1
  obtain ⟨c, d, rfl⟩ := fit_iv h2
  exact computes_n a b c d
end Go.Proofs.YtkfmneenhochhaaGreatDoor.S
namespace Gb
open Go Go.RowKit Go.Sx
def hullJ (p : Rat × Rat) (l : List TT2) : Rat × Rat := l.foldl (fun p t => joinQ p (rd t.1, rd t.2)) p
theorem hullJ_snoc (p : Rat × Rat) (l : List TT2) (t : TT2) : hullJ p (l ++ [t]) = joinQ (hullJ p l) (rd t.1, rd t.2) := by
  unfold hullJ; rw [List.foldl_append]; rfl
theorem ends2 (p : Rat × Rat) {a b : Rat} (h : a ≤ b) (hp : p.1 ≤ p.2) : endsQ p [a, b] = joinQ p (a, b) ∧ (joinQ p (a, b)).1 ≤ (joinQ p (a, b)).2 := by
  obtain ⟨x, y⟩ := p
  simp only [endsQ, List.foldl, joinQ, leastQ, mostQ] at *
  grind
theorem endsQ_app (p : Rat × Rat) (l m : List Rat) : endsQ p (l ++ m) = endsQ (endsQ p l) m := List.foldl_append
theorem ends_flat : ∀ (l : List TT2) (p : Rat × Rat), p.1 ≤ p.2 → (∀ t ∈ l, isIv t.1 t.2 = true) → endsQ p (ratsOf l) = hullJ p l
  | [], p, _, _ => rfl
  | t :: l, p, hp, h => by
    obtain ⟨h1, h2, h3⟩ := isIv_spec (h t (List.mem_cons_self ..))
    obtain ⟨h4, h5⟩ := ends2 p h3 hp
    show endsQ p ([ratOf t.1, ratOf t.2] ++ ratsOf l) = hullJ (joinQ p (rd t.1, rd t.2)) l
    have r1 : rd t.1 = ratOf t.1 := by unfold rd; rw [if_pos h1]
    have r2 : rd t.2 = ratOf t.2 := by unfold rd; rw [if_pos h2]
    rw [endsQ_app, h4, ends_flat l _ h5 fun x hx => h x (List.mem_cons_of_mem _ hx), r1, r2]
theorem hull_eq {t : TT2} {l : List TT2} (h : ∀ x ∈ t :: l, isIv x.1 x.2 = true) : hullJ (rd t.1, rd t.2) (t :: l) = hullQ (t :: l) := by
  obtain ⟨h1, h2, h3⟩ := isIv_spec (h t (List.mem_cons_self ..))
  have r1 : rd t.1 = ratOf t.1 := by unfold rd; rw [if_pos h1]
  have r2 : rd t.2 = ratOf t.2 := by unfold rd; rw [if_pos h2]
  show hullJ (joinQ (rd t.1, rd t.2) (rd t.1, rd t.2)) l = endsQ (ratOf t.1, ratOf t.1) ([ratOf t.2] ++ ratsOf l)
  rw [r1, r2, endsQ_app]
  have e1 : endsQ (ratOf t.1, ratOf t.1) [ratOf t.2] = (ratOf t.1, ratOf t.2) := by
    simp only [endsQ, List.foldl]; grind
  have e2 : joinQ (ratOf t.1, ratOf t.2) (ratOf t.1, ratOf t.2) = (ratOf t.1, ratOf t.2) := by
    simp only [joinQ, leastQ, mostQ]; grind
  rw [e1, e2, ends_flat l _ h3 fun x hx => h x (List.mem_cons_of_mem _ hx)]
theorem hullJ_sz {k : Nat} : ∀ (l : List TT2) (p : Rat × Rat), SzI k p → (∀ t ∈ l, SzI k (rd t.1, rd t.2)) → SzI k (hullJ p l)
  | [], p, hp, _ => hp
  | t :: l, p, hp, h => hullJ_sz l _ (joinQ_sz hp (h t (List.mem_cons_self ..))) fun x hx => h x (List.mem_cons_of_mem _ hx)
end Gb
namespace Go.Proofs.YtkfmneenhochhaaGreatDoor.S
open Go Go.Sx Go.RowKit Gb Go.Shelf
set_option maxRecDepth 100000 in
set_option maxHeartbeats 8000000 in
theorem hull4_n (l : List TT2) (hl : l.length < 1000000) (hlen : ∀ p ∈ l, p.1.length < 13000 ∧ p.2.length < 13000) : Meets Tryz.prog Gd 37 [.sl l.length (flat l)] (hullP l) := by
  refine meets_of_vc (Y := {}) (N := 51) (rs := [.cell 2 24, .tmp 3]) mix tk gd Tryz.func37 rfl (by kernel_rfl) rfl rfl (by simp) (by kernel_rfl) ?_
  unfold hullP
  by_cases c0 : l.length = 0
  · rw [if_pos c0]
    have d0 : ((l.length : Int) == 0) = true := by simp [c0]
    simp (maxSteps := 10000000) only [↓sx, sx, ↓ty, ↓reduceIte, Nat.reduceEqDiff, Nat.reduceBeqDiff, Nat.reduceAdd, Nat.reduceLeDiff, Nat.reduceLT, Nat.reduceMul, Nat.reduceSub, Int.reduceEq, Int.reduceBNe, Int.reduceBEq, ne_eq, not_false_eq_true, pc, ls, bs, and_true, true_and, and_self, Nat.reduceAdd, Nat.le_refl, leafP, pi, d0]
  · rw [if_neg c0]
    have d0 : ((l.length : Int) == 0) = false := by rw [beq_eq_false_iff_ne]; omega
    by_cases c1 : 1024 < l.length
    · rw [if_pos c1]
      have d1 : decide ((l.length : Int) > 1024) = true := by simp; omega
      simp (maxSteps := 10000000) only [↓sx, sx, ↓ty, ↓reduceIte, Nat.reduceEqDiff, Nat.reduceBeqDiff, Nat.reduceAdd, Nat.reduceLeDiff, Nat.reduceLT, Nat.reduceMul, Nat.reduceSub, Int.reduceEq, Int.reduceBNe, Int.reduceBEq, ne_eq, not_false_eq_true, pc, ls, bs, and_true, true_and, and_self, Nat.reduceAdd, Nat.le_refl, leafP, pi, d0, d1]
    · rw [if_neg c1]
      have d1 : decide ((l.length : Int) > 1024) = false := by simp; omega
      have hm0 : l.getD 0 ([], []) ∈ l := by rw [List.getD_eq_getElem?_getD, List.getElem?_eq_getElem (by omega)]; exact List.getElem_mem _
      have hd0 : (flat l).take 2 = [.val (.string ⟨(l.getD 0 ([], [])).1.toArray⟩), .val (.string ⟨(l.getD 0 ([], [])).2.toArray⟩)] := by
        have := flat_drop l 0 (by omega)
        rw [Nat.zero_mul, List.drop_zero] at this
        rw [this]; rfl
      have hp0 := hlen _ hm0
      have hfl := flat_len l
      have hrs : ∀ t ∈ l, SzI 10000 (rd t.1, rd t.2) := fun t ht => by
        have := hlen t ht
        exact ⟨(rd_sz (k := 1500) (by omega)).mono (by omega), (rd_sz (k := 1500) (by omega)).mono (by omega)⟩
      simp (maxSteps := 10000000) only [↓sx, sx, ↓ty, ↓reduceIte, Nat.reduceEqDiff, Nat.reduceBeqDiff, Nat.reduceAdd, Nat.reduceLeDiff, Nat.reduceLT, Nat.reduceMul, Nat.reduceSub, Int.reduceEq, Int.reduceBNe, Int.reduceBEq, ne_eq, not_false_eq_true, pc, ls, bs, and_true, true_and, and_self, Nat.reduceAdd, Nat.le_refl, leafP, pi, d0, d1]
      refine ⟨⟨by omega, by omega, by omega⟩, by omega, CallT.to (from4_n (l.getD 0 ([], [])).1 (l.getD 0 ([], [])).2 (by omega) (by omega)) (by rw [hd0]; rfl) ?_⟩
      simp (maxSteps := 10000000) only [↓sx, sx, ↓ty, ↓reduceIte, Nat.reduceEqDiff, Nat.reduceBeqDiff, Nat.reduceAdd, Nat.reduceLeDiff, Nat.reduceLT, Nat.reduceMul, Nat.reduceSub, Int.reduceEq, Int.reduceBNe, Int.reduceBEq, ne_eq, not_false_eq_true, pc, ls, bs, and_true, true_and, and_self, Nat.reduceAdd, Nat.le_refl, leafP, pj]
      refine loopK_of (fun s : Nat × (Rat × Rat) × Bool => [(0, .p (.sl l.length (flat l))), (2, .box 2 0), (4, .box 4 0), (5, .p (.val (.bool s.2.2))), (6, .p (.val (.int .i64 (s.1 : Nat))))])
        (fun s => [(2, (24, [e0, e0])), (4, (68, [.val (.bool (decide (s.2.1.1.num < 0))), nP s.2.1.1.num.natAbs, nP s.2.1.1.den, .val (.bool (decide (s.2.1.2.num < 0))), nP s.2.1.2.num.natAbs, nP s.2.1.2.den]))]) (fun _ => [])
        (fun s => s.1 ≤ l.length ∧ SzI 10000 s.2.1 ∧ s.2.2 = (isIv (l.getD 0 ([], [])).1 (l.getD 0 ([], [])).2 && (l.take s.1).all fun p => isIv p.1 p.2) ∧ (s.2.2 = true → s.2.1 = hullJ (rd (l.getD 0 ([], [])).1, rd (l.getD 0 ([], [])).2) (l.take s.1)))
        (fun s => l.length - s.1) (0, (rd (l.getD 0 ([], [])).1, rd (l.getD 0 ([], [])).2), isIv (l.getD 0 ([], [])).1 (l.getD 0 ([], [])).2) ⟨Nat.zero_le _, hrs _ hm0, by simp, fun _ => rfl⟩ ?_ ?_
      · simp (maxSteps := 10000000) only [isE_nil, is_cons, bo_p, bo_box, bo_orow, bo_rowp, any_cons', all_cons', all_nil', Bool.true_or, Bool.or_true, ↓sx, sx, ↓reduceIte, Nat.reduceEqDiff, Nat.reduceBeqDiff, pc]
        trivial
      · rintro ⟨i, acc, ok⟩ ⟨hi, hsz, hok, hacc⟩
        dsimp only at hi hsz hok hacc ⊢
        by_cases hil : i < l.length
        · have e1 : decide ((i : Int) < (l.length : Int)) = true := by simp; omega
          have hd := flat_drop l i hil
          have hm : l.getD i ([], []) ∈ l := by rw [List.getD_eq_getElem?_getD, List.getElem?_eq_getElem hil]; exact List.getElem_mem hil
          have hp := hlen _ hm
          have ht := take_snoc2 hil
          simp (maxSteps := 10000000) only [↓sx, sx, ↓ty, ↓reduceIte, Nat.reduceEqDiff, Nat.reduceBeqDiff, Nat.reduceAdd, Nat.reduceLeDiff, Nat.reduceLT, Nat.reduceMul, Nat.reduceSub, Int.reduceEq, Int.reduceBNe, Int.reduceBEq, ne_eq, not_false_eq_true, pc, ls, bs, and_true, true_and, and_self, Nat.reduceAdd, Nat.le_refl, leafP, e1, hd]
          refine ⟨⟨by omega, hil, by rw [hfl]; omega⟩, ?_⟩
          refine CallT.mk (from4_n (l.getD i ([], [])).1 (l.getD i ([], [])).2 (by omega) (by omega)) ?_
          cases ok with
          | false =>
            simp (maxSteps := 10000000) only [↓sx, sx, ↓ty, ↓reduceIte, Nat.reduceEqDiff, Nat.reduceBeqDiff, Nat.reduceAdd, Nat.reduceLeDiff, Nat.reduceLT, Nat.reduceMul, Nat.reduceSub, Int.reduceEq, Int.reduceBNe, Int.reduceBEq, ne_eq, not_false_eq_true, pc, ls, bs, and_true, true_and, and_self, Nat.reduceAdd, Nat.le_refl, leafP, pj]
            refine NextK.mk (i + 1, acc, false) (by dsimp only; omega) ⟨by dsimp only; omega, hsz, ?_, by simp⟩ ?_
            · dsimp only
              rw [ht, List.all_append, ← Bool.and_assoc, ← hok]; rfl
            · simp (maxSteps := 10000000) only [isE_nil, is_cons, bo_p, bo_box, bo_orow, bo_rowp, any_cons', all_cons', all_nil', Bool.true_or, Bool.or_true, ↓sx, sx, ↓reduceIte, Nat.reduceEqDiff, Nat.reduceBeqDiff, pc]
              rw [i64_id (by omega) (by omega)]
              try rfl
          | true =>
            cases hq : isIv (l.getD i ([], [])).1 (l.getD i ([], [])).2 with
            | false =>
              simp (maxSteps := 10000000) only [↓sx, sx, ↓ty, ↓reduceIte, Nat.reduceEqDiff, Nat.reduceBeqDiff, Nat.reduceAdd, Nat.reduceLeDiff, Nat.reduceLT, Nat.reduceMul, Nat.reduceSub, Int.reduceEq, Int.reduceBNe, Int.reduceBEq, ne_eq, not_false_eq_true, pc, ls, bs, and_true, true_and, and_self, Nat.reduceAdd, Nat.le_refl, leafP, pj]
              refine NextK.mk (i + 1, acc, false) (by dsimp only; omega) ⟨by dsimp only; omega, hsz, ?_, by simp⟩ ?_
              · dsimp only
                rw [ht, List.all_append, ← Bool.and_assoc, ← hok, List.all_cons, List.all_nil, hq]; rfl
              · simp (maxSteps := 10000000) only [isE_nil, is_cons, bo_p, bo_box, bo_orow, bo_rowp, any_cons', all_cons', all_nil', Bool.true_or, Bool.or_true, ↓sx, sx, ↓reduceIte, Nat.reduceEqDiff, Nat.reduceBeqDiff, pc]
                rw [i64_id (by omega) (by omega)]
                try rfl
            | true =>
              simp (maxSteps := 10000000) only [↓sx, sx, ↓ty, ↓reduceIte, Nat.reduceEqDiff, Nat.reduceBeqDiff, Nat.reduceAdd, Nat.reduceLeDiff, Nat.reduceLT, Nat.reduceMul, Nat.reduceSub, Int.reduceEq, Int.reduceBNe, Int.reduceBEq, ne_eq, not_false_eq_true, pc, ls, bs, and_true, true_and, and_self, Nat.reduceAdd, Nat.le_refl, leafP, pj]
              refine CallT.mk (t := ⟨⟩) (join4_n acc (rd (l.getD i ([], [])).1, rd (l.getD i ([], [])).2) (hsz.mono (by omega)) ((hrs _ hm).mono (by omega))) ?_
              simp (maxSteps := 10000000) only [↓sx, sx, ↓ty, ↓reduceIte, Nat.reduceEqDiff, Nat.reduceBeqDiff, Nat.reduceAdd, Nat.reduceLeDiff, Nat.reduceLT, Nat.reduceMul, Nat.reduceSub, Int.reduceEq, Int.reduceBNe, Int.reduceBEq, ne_eq, not_false_eq_true, pc, ls, bs, and_true, true_and, and_self, Nat.reduceAdd, Nat.le_refl, leafP, pj]
              refine NextK.mk (i + 1, joinQ acc (rd (l.getD i ([], [])).1, rd (l.getD i ([], [])).2), true) (by dsimp only; omega) ⟨by dsimp only; omega, joinQ_sz hsz (hrs _ hm), ?_, fun _ => ?_⟩ ?_
              · dsimp only
                rw [ht, List.all_append, ← Bool.and_assoc, ← hok, List.all_cons, List.all_nil, hq]; rfl
              · dsimp only
                rw [ht, hullJ_snoc, ← hacc rfl]
              · simp (maxSteps := 10000000) only [isE_nil, is_cons, bo_p, bo_box, bo_orow, bo_rowp, any_cons', all_cons', all_nil', Bool.true_or, Bool.or_true, ↓sx, sx, ↓reduceIte, Nat.reduceEqDiff, Nat.reduceBeqDiff, pc]
                rw [i64_id (by omega) (by omega)]
                try rfl
        · obtain rfl : i = l.length := by omega
          rw [List.take_length] at hok hacc
          have e1 : decide ((l.length : Int) < (l.length : Int)) = false := by simp
          have hall : (l.all fun p => isIv p.1 p.2) = ok := by
            rw [hok]
            cases h1 : l.all fun p => isIv p.1 p.2 with
            | false => simp
            | true => rw [List.all_eq_true.1 h1 _ hm0]; rfl
          rw [hall]
          cases ok with
          | false =>
            simp only [Bool.false_eq_true, if_false]
            simp (maxSteps := 10000000) only [↓sx, sx, ↓ty, ↓reduceIte, Nat.reduceEqDiff, Nat.reduceBeqDiff, Nat.reduceAdd, Nat.reduceLeDiff, Nat.reduceLT, Nat.reduceMul, Nat.reduceSub, Int.reduceEq, Int.reduceBNe, Int.reduceBEq, ne_eq, not_false_eq_true, pc, ls, bs, and_true, true_and, and_self, Nat.reduceAdd, Nat.le_refl, leafP, e1, pi]
          | true =>
            simp only [if_true]
            have hq : acc = hullQ l := by
              rw [hacc rfl]
              match l, c0, hall with
              | t :: r, _, hall => exact hull_eq (List.all_eq_true.1 hall)
            rw [← hq]
            simp (maxSteps := 10000000) only [↓sx, sx, ↓ty, ↓reduceIte, Nat.reduceEqDiff, Nat.reduceBeqDiff, Nat.reduceAdd, Nat.reduceLeDiff, Nat.reduceLT, Nat.reduceMul, Nat.reduceSub, Int.reduceEq, Int.reduceBNe, Int.reduceBEq, ne_eq, not_false_eq_true, pc, ls, bs, and_true, true_and, and_self, Nat.reduceAdd, Nat.le_refl, leafP, e1, pj]
            refine CallT.mk (to4_n acc (hsz.mono (by omega))) ?_
            simp (maxSteps := 10000000) only [↓sx, sx, ↓ty, ↓reduceIte, Nat.reduceEqDiff, Nat.reduceBeqDiff, Nat.reduceAdd, Nat.reduceLeDiff, Nat.reduceLT, Nat.reduceMul, Nat.reduceSub, Int.reduceEq, Int.reduceBNe, Int.reduceBEq, ne_eq, not_false_eq_true, pc, ls, bs, and_true, true_and, and_self, Nat.reduceAdd, Nat.le_refl, leafP, pi]
end Go.Proofs.YtkfmneenhochhaaGreatDoor.S
namespace Go.Proofs.YtkfmneenhochhaaGreatDoor.S
open Go Go.RowKit Go.Sx Go.Shelf
set_option maxRecDepth 100000 in
set_option maxHeartbeats 4000000 in
theorem cloneI_c : CloneC Tryz.prog 36 24 2 := by
  intro v n us w hv h1 hn
  have hti : T 24 = some ⟨2, true, .struct [(0, 22), (1, 22)], [.val (.string ⟨#[]⟩), .val (.string ⟨#[]⟩)], [.string, .string], 32⟩ := rfl
  obtain ⟨ie, zv, i1, i2, i3, i4⟩ := (tk.ok _ _ hti).info
  obtain ⟨ie', i5, i6⟩ := (tk.ok _ _ hti).bytes
  rw [i1] at i5; cases i5
  have hzl := (i4 (fun _ => True) w).length
  rw [(tk.ok _ _ hti).zlen, Array.length_toList] at hzl
  have hu := Tryz.underlying46
  rcases hv with ⟨rfl, rfl, rfl⟩ | ⟨ad, c, rfl, hl, hc⟩
  · go_enter Tryz.func36, Tryz.ntmps36
    go_wp2
    rw [Lib.run_eql_slice_nil (h := hu)]
    go_wp2
    go_ret
    exact ⟨_, rfl, Below.refl _ _, World.ownsRow_nil _ _ _ _⟩
  · go_enter Tryz.func36, Tryz.ntmps36
    go_wp2
    rw [Lib.run_eql_slice_nil (h := hu)]
    have hcell : ∀ j u, us[j]? = some u → (w.alloc (.cells #[] 24)).cell? (ad.add j) = some u := by
      intro j u h
      have h0 := hc j u h
      rwa [World.cell?_alloc_lt (h := (cell_lt h0).1)]
    go_wp2_with (at_builtin; go_loud (refine wpList_append_own _ rfl _ _ 46 rfl w.heap.size 24 ie zv 2 32 hu i1 i3 i2 i6 hzl (by decide) _ 0 [] rfl (World.ownsRow_made w #[] 0 (Nat.le_refl _) (by simp [maxLen]) (by simp)) ad n c us rfl hl hcell h1 (by simp only [maxLen]; omega) (by omega) (by simp) ?_))
    intro v' w' ho hg _
    go_wp2
    go_ret
    refine ⟨v', rfl, below_grownBy (grownBy_trans (World.grownBy_alloc w _ none) hg fun k hk => ?_), ho⟩
    simp [Value.ownBlock] at hk
    omega
theorem cloneI_n {n : Nat} {cs : List PV} (hl : cs.length = n * 2) (hf : cs.all leafP = true) (hn : n ≤ 1000000) (G : World → Prop) : Meets Tryz.prog G 36 [.sl n cs] (.sl n cs) :=
  clone_m (enters_of Tryz.func36 (by kernel_rfl) rfl) cloneI_c hl hf hn
end Go.Proofs.YtkfmneenhochhaaGreatDoor.S
namespace Gb
open Go Go.RowKit Go.Sx
theorem meet_form (a1 a2 b1 b2 : List UInt8) : ∃ p q s, imeetP a1 a2 b1 b2 = .tup [ivP p q, .val (.bool s)] := by
  unfold imeetP
  split
  · exact ⟨_, _, _, rfl⟩
  · exact ⟨_, _, _, rfl⟩
theorem hull_form (l : List TT2) : ∃ p q e, hullP l = .tup [ivP p q, iP e] := by
  unfold hullP
  split
  · exact ⟨_, _, _, rfl⟩
  · split
    · exact ⟨_, _, _, rfl⟩
    · split
      · exact ⟨_, _, _, rfl⟩
      · exact ⟨_, _, _, rfl⟩
theorem round_form (a1 a2 : List UInt8) (n : Int) : ∃ p q e, iroundP a1 a2 n = .tup [ivP p q, iP e] := by
  unfold iroundP
  split
  · split
    · exact ⟨_, _, _, rfl⟩
    · exact ⟨_, _, _, rfl⟩
  · exact ⟨_, _, _, rfl⟩
theorem flat_leaf : ∀ l : List TT2, (flat l).all leafP = true
  | [] => rfl
  | p :: l => by rw [flat_cons, List.all_cons, List.all_cons, flat_leaf l]; rfl
theorem any_no {l : List TT2} (h : l.any wideB = false) : ∀ p ∈ l, p.1.length ≤ 40 ∧ p.2.length ≤ 40 := fun p hp => wideB_no (by simpa using List.any_eq_false.1 h p hp)
end Gb
namespace Go.Proofs.YtkfmneenhochhaaGreatDoor.S
open Go Go.Sx Go.RowKit Gb Go.Shelf
set_option maxRecDepth 100000 in
set_option maxHeartbeats 8000000 in
theorem joins_n (a b c d : List UInt8) (l : List TT2) (n : Int) (hl : l.length ≤ 9223372036854775807) : Meets Tryz.prog Gd 7 [ivP a b, ivP c d, .sl l.length (flat l), iP n] (.val (.bool true)) := by
  refine meets_of_vc (Y := {}) (N := 107) (rs := [.tmp 8]) mix tk gd Tryz.func7 rfl (by kernel_rfl) rfl rfl (by simp) (by kernel_rfl) ?_
  simp (maxSteps := 10000000) only [↓sx, sx, ↓ty, ↓reduceIte, Nat.reduceEqDiff, Nat.reduceBeqDiff, Nat.reduceAdd, Nat.reduceLeDiff, Nat.reduceLT, Nat.reduceMul, Nat.reduceSub, Int.reduceEq, Int.reduceBNe, Int.reduceBEq, ne_eq, not_false_eq_true, pc, ls, bs, and_true, true_and, and_self, Nat.reduceAdd, Nat.le_refl, leafP, pi, la]
  refine CallT.mk (t := ⟨⟩) awake_n ?_
  simp (maxSteps := 10000000) only [↓sx, sx, ↓ty, ↓reduceIte, Nat.reduceEqDiff, Nat.reduceBeqDiff, Nat.reduceAdd, Nat.reduceLeDiff, Nat.reduceLT, Nat.reduceMul, Nat.reduceSub, Int.reduceEq, Int.reduceBNe, Int.reduceBEq, ne_eq, not_false_eq_true, pc, ls, bs, and_true, true_and, and_self, Nat.reduceAdd, Nat.le_refl, leafP, pi, la]
  refine CallT.mk (t := ⟨⟩) (wide_2 a b c d) ?_
  cases hw : (wideB (a, b) || wideB (c, d)) with
  | true =>
    simp (maxSteps := 10000000) only [↓sx, sx, ↓ty, ↓reduceIte, Nat.reduceEqDiff, Nat.reduceBeqDiff, Nat.reduceAdd, Nat.reduceLeDiff, Nat.reduceLT, Nat.reduceMul, Nat.reduceSub, Int.reduceEq, Int.reduceBNe, Int.reduceBEq, ne_eq, not_false_eq_true, pc, ls, bs, and_true, true_and, and_self, Nat.reduceAdd, Nat.le_refl, leafP, pi, la]
    refine CallT.mk (t := ⟨⟩) awake_n ?_
    simp (maxSteps := 10000000) only [↓sx, sx, ↓ty, ↓reduceIte, Nat.reduceEqDiff, Nat.reduceBeqDiff, Nat.reduceAdd, Nat.reduceLeDiff, Nat.reduceLT, Nat.reduceMul, Nat.reduceSub, Int.reduceEq, Int.reduceBNe, Int.reduceBEq, ne_eq, not_false_eq_true, pc, ls, bs, and_true, true_and, and_self, Nat.reduceAdd, Nat.le_refl, leafP, pi, la]
  | false =>
    obtain ⟨h1, h2, h3, h4⟩ := wide2_no hw
    simp (maxSteps := 10000000) only [↓sx, sx, ↓ty, ↓reduceIte, Nat.reduceEqDiff, Nat.reduceBeqDiff, Nat.reduceAdd, Nat.reduceLeDiff, Nat.reduceLT, Nat.reduceMul, Nat.reduceSub, Int.reduceEq, Int.reduceBNe, Int.reduceBEq, ne_eq, not_false_eq_true, pc, ls, bs, and_true, true_and, and_self, Nat.reduceAdd, Nat.le_refl, leafP, pi, la]
    refine CallT.mk (t := ⟨⟩) (wideL_n l hl) ?_
    cases hw2 : l.any wideB with
    | true =>
      simp (maxSteps := 10000000) only [↓sx, sx, ↓ty, ↓reduceIte, Nat.reduceEqDiff, Nat.reduceBeqDiff, Nat.reduceAdd, Nat.reduceLeDiff, Nat.reduceLT, Nat.reduceMul, Nat.reduceSub, Int.reduceEq, Int.reduceBNe, Int.reduceBEq, ne_eq, not_false_eq_true, pc, ls, bs, and_true, true_and, and_self, Nat.reduceAdd, Nat.le_refl, leafP, pi, la]
      refine CallT.mk (t := ⟨⟩) awake_n ?_
      simp (maxSteps := 10000000) only [↓sx, sx, ↓ty, ↓reduceIte, Nat.reduceEqDiff, Nat.reduceBeqDiff, Nat.reduceAdd, Nat.reduceLeDiff, Nat.reduceLT, Nat.reduceMul, Nat.reduceSub, Int.reduceEq, Int.reduceBNe, Int.reduceBEq, ne_eq, not_false_eq_true, pc, ls, bs, and_true, true_and, and_self, Nat.reduceAdd, Nat.le_refl, leafP, pi, la]
    | false =>
      by_cases hc : 12 < l.length ∧ l.length ≠ 1025
      · have d1 : decide ((l.length : Int) > 12) = true := by simp; omega
        have d2 : ((l.length : Int) != 1025) = true := by simp; omega
        simp (maxSteps := 10000000) only [↓sx, sx, ↓ty, ↓reduceIte, Nat.reduceEqDiff, Nat.reduceBeqDiff, Nat.reduceAdd, Nat.reduceLeDiff, Nat.reduceLT, Nat.reduceMul, Nat.reduceSub, Int.reduceEq, Int.reduceBNe, Int.reduceBEq, ne_eq, not_false_eq_true, pc, ls, bs, and_true, true_and, and_self, Nat.reduceAdd, Nat.le_refl, leafP, pi, la, d1, d2]
        refine CallT.mk (t := ⟨⟩) awake_n ?_
        simp (maxSteps := 10000000) only [↓sx, sx, ↓ty, ↓reduceIte, Nat.reduceEqDiff, Nat.reduceBeqDiff, Nat.reduceAdd, Nat.reduceLeDiff, Nat.reduceLT, Nat.reduceMul, Nat.reduceSub, Int.reduceEq, Int.reduceBNe, Int.reduceBEq, ne_eq, not_false_eq_true, pc, ls, bs, and_true, true_and, and_self, Nat.reduceAdd, Nat.le_refl, leafP, pi, la]
      · have hl2 : l.length < 2000 := by omega
        have hn := any_no hw2
        have key : (if decide ((l.length : Int) > 12) = true then ((l.length : Int) != 1025) else false) = false := by
          by_cases h : 12 < l.length
          · have : l.length = 1025 := by omega
            simp [this]
          · have : decide ((l.length : Int) > 12) = false := by simp; omega
            simp [this]
        obtain ⟨s1, d1⟩ : ∃ s, decide ((l.length : Int) > 12) = s := ⟨_, rfl⟩
        obtain ⟨s2, d2⟩ : ∃ s, (((l.length : Int) != 1025)) = s := ⟨_, rfl⟩
        have M1 := imeet_n a b c d (by omega) (by omega) (by omega) (by omega)
        have M2 := meet4_n a b c d (by omega) (by omega) (by omega) (by omega)
        obtain ⟨p, q, e, hx⟩ := meet_form a b c d
        rw [hx] at M1 M2
        have H1 := hull_n l (by omega) fun p hp => by have := hn p hp; omega
        have H2 := hull4_n l (by omega) fun p hp => by have := hn p hp; omega
        obtain ⟨p2, q2, e2, hx2⟩ := hull_form l
        rw [hx2] at H1 H2
        have R1 := iround_n a b n (by omega) (by omega)
        have R2 := round4_n a b n (by omega) (by omega)
        obtain ⟨p3, q3, e3, hx3⟩ := round_form a b n
        rw [hx3] at R1 R2
        have C := cloneI_n (flat_len l) (flat_leaf l) (by omega) Gd
        rw [d1, d2] at key
        cases s1 with
        | false =>
          simp (maxSteps := 10000000) only [↓sx, sx, ↓ty, ↓reduceIte, Nat.reduceEqDiff, Nat.reduceBeqDiff, Nat.reduceAdd, Nat.reduceLeDiff, Nat.reduceLT, Nat.reduceMul, Nat.reduceSub, Int.reduceEq, Int.reduceBNe, Int.reduceBEq, ne_eq, not_false_eq_true, pc, ls, bs, and_true, true_and, and_self, Nat.reduceAdd, Nat.le_refl, leafP, pi, la, d1, d2]
          refine CallT.mk (t := ⟨⟩) M1 ?_
          simp (maxSteps := 10000000) only [↓sx, sx, ↓ty, ↓reduceIte, Nat.reduceEqDiff, Nat.reduceBeqDiff, Nat.reduceAdd, Nat.reduceLeDiff, Nat.reduceLT, Nat.reduceMul, Nat.reduceSub, Int.reduceEq, Int.reduceBNe, Int.reduceBEq, ne_eq, not_false_eq_true, pc, ls, bs, and_true, true_and, and_self, Nat.reduceAdd, Nat.le_refl, leafP, pi, la]
          refine CallT.mk (t := ⟨⟩) M2 ?_
          simp (maxSteps := 10000000) only [↓sx, sx, ↓ty, ↓reduceIte, Nat.reduceEqDiff, Nat.reduceBeqDiff, Nat.reduceAdd, Nat.reduceLeDiff, Nat.reduceLT, Nat.reduceMul, Nat.reduceSub, Int.reduceEq, Int.reduceBNe, Int.reduceBEq, ne_eq, not_false_eq_true, pc, ls, bs, and_true, true_and, and_self, Nat.reduceAdd, Nat.le_refl, leafP, pi, la]
          refine CallT.mk (t := ⟨⟩) C ?_
          simp (maxSteps := 10000000) only [↓sx, sx, ↓ty, ↓reduceIte, Nat.reduceEqDiff, Nat.reduceBeqDiff, Nat.reduceAdd, Nat.reduceLeDiff, Nat.reduceLT, Nat.reduceMul, Nat.reduceSub, Int.reduceEq, Int.reduceBNe, Int.reduceBEq, ne_eq, not_false_eq_true, pc, ls, bs, and_true, true_and, and_self, Nat.reduceAdd, Nat.le_refl, leafP, pi, la]
          refine CallT.mk (t := ⟨⟩) H1 ?_
          simp (maxSteps := 10000000) only [↓sx, sx, ↓ty, ↓reduceIte, Nat.reduceEqDiff, Nat.reduceBeqDiff, Nat.reduceAdd, Nat.reduceLeDiff, Nat.reduceLT, Nat.reduceMul, Nat.reduceSub, Int.reduceEq, Int.reduceBNe, Int.reduceBEq, ne_eq, not_false_eq_true, pc, ls, bs, and_true, true_and, and_self, Nat.reduceAdd, Nat.le_refl, leafP, pi, la]
          refine CallT.mk (t := ⟨⟩) H2 ?_
          simp (maxSteps := 10000000) only [↓sx, sx, ↓ty, ↓reduceIte, Nat.reduceEqDiff, Nat.reduceBeqDiff, Nat.reduceAdd, Nat.reduceLeDiff, Nat.reduceLT, Nat.reduceMul, Nat.reduceSub, Int.reduceEq, Int.reduceBNe, Int.reduceBEq, ne_eq, not_false_eq_true, pc, ls, bs, and_true, true_and, and_self, Nat.reduceAdd, Nat.le_refl, leafP, pi, la]
          refine CallT.mk (t := ⟨⟩) R1 ?_
          simp (maxSteps := 10000000) only [↓sx, sx, ↓ty, ↓reduceIte, Nat.reduceEqDiff, Nat.reduceBeqDiff, Nat.reduceAdd, Nat.reduceLeDiff, Nat.reduceLT, Nat.reduceMul, Nat.reduceSub, Int.reduceEq, Int.reduceBNe, Int.reduceBEq, ne_eq, not_false_eq_true, pc, ls, bs, and_true, true_and, and_self, Nat.reduceAdd, Nat.le_refl, leafP, pi, la]
          refine CallT.mk (t := ⟨⟩) R2 ?_
          simp (maxSteps := 10000000) only [↓sx, sx, ↓ty, ↓reduceIte, Nat.reduceEqDiff, Nat.reduceBeqDiff, Nat.reduceAdd, Nat.reduceLeDiff, Nat.reduceLT, Nat.reduceMul, Nat.reduceSub, Int.reduceEq, Int.reduceBNe, Int.reduceBEq, ne_eq, not_false_eq_true, pc, ls, bs, and_true, true_and, and_self, Nat.reduceAdd, Nat.le_refl, leafP, pi, la, ag, beq_self_eq_true]
        | true =>
          obtain rfl : s2 = false := by simpa using key
          simp (maxSteps := 10000000) only [↓sx, sx, ↓ty, ↓reduceIte, Nat.reduceEqDiff, Nat.reduceBeqDiff, Nat.reduceAdd, Nat.reduceLeDiff, Nat.reduceLT, Nat.reduceMul, Nat.reduceSub, Int.reduceEq, Int.reduceBNe, Int.reduceBEq, ne_eq, not_false_eq_true, pc, ls, bs, and_true, true_and, and_self, Nat.reduceAdd, Nat.le_refl, leafP, pi, la, d1, d2]
          refine CallT.mk (t := ⟨⟩) M1 ?_
          simp (maxSteps := 10000000) only [↓sx, sx, ↓ty, ↓reduceIte, Nat.reduceEqDiff, Nat.reduceBeqDiff, Nat.reduceAdd, Nat.reduceLeDiff, Nat.reduceLT, Nat.reduceMul, Nat.reduceSub, Int.reduceEq, Int.reduceBNe, Int.reduceBEq, ne_eq, not_false_eq_true, pc, ls, bs, and_true, true_and, and_self, Nat.reduceAdd, Nat.le_refl, leafP, pi, la]
          refine CallT.mk (t := ⟨⟩) M2 ?_
          simp (maxSteps := 10000000) only [↓sx, sx, ↓ty, ↓reduceIte, Nat.reduceEqDiff, Nat.reduceBeqDiff, Nat.reduceAdd, Nat.reduceLeDiff, Nat.reduceLT, Nat.reduceMul, Nat.reduceSub, Int.reduceEq, Int.reduceBNe, Int.reduceBEq, ne_eq, not_false_eq_true, pc, ls, bs, and_true, true_and, and_self, Nat.reduceAdd, Nat.le_refl, leafP, pi, la]
          refine CallT.mk (t := ⟨⟩) C ?_
          simp (maxSteps := 10000000) only [↓sx, sx, ↓ty, ↓reduceIte, Nat.reduceEqDiff, Nat.reduceBeqDiff, Nat.reduceAdd, Nat.reduceLeDiff, Nat.reduceLT, Nat.reduceMul, Nat.reduceSub, Int.reduceEq, Int.reduceBNe, Int.reduceBEq, ne_eq, not_false_eq_true, pc, ls, bs, and_true, true_and, and_self, Nat.reduceAdd, Nat.le_refl, leafP, pi, la]
          refine CallT.mk (t := ⟨⟩) H1 ?_
          simp (maxSteps := 10000000) only [↓sx, sx, ↓ty, ↓reduceIte, Nat.reduceEqDiff, Nat.reduceBeqDiff, Nat.reduceAdd, Nat.reduceLeDiff, Nat.reduceLT, Nat.reduceMul, Nat.reduceSub, Int.reduceEq, Int.reduceBNe, Int.reduceBEq, ne_eq, not_false_eq_true, pc, ls, bs, and_true, true_and, and_self, Nat.reduceAdd, Nat.le_refl, leafP, pi, la]
          refine CallT.mk (t := ⟨⟩) H2 ?_
          simp (maxSteps := 10000000) only [↓sx, sx, ↓ty, ↓reduceIte, Nat.reduceEqDiff, Nat.reduceBeqDiff, Nat.reduceAdd, Nat.reduceLeDiff, Nat.reduceLT, Nat.reduceMul, Nat.reduceSub, Int.reduceEq, Int.reduceBNe, Int.reduceBEq, ne_eq, not_false_eq_true, pc, ls, bs, and_true, true_and, and_self, Nat.reduceAdd, Nat.le_refl, leafP, pi, la]
          refine CallT.mk (t := ⟨⟩) R1 ?_
          simp (maxSteps := 10000000) only [↓sx, sx, ↓ty, ↓reduceIte, Nat.reduceEqDiff, Nat.reduceBeqDiff, Nat.reduceAdd, Nat.reduceLeDiff, Nat.reduceLT, Nat.reduceMul, Nat.reduceSub, Int.reduceEq, Int.reduceBNe, Int.reduceBEq, ne_eq, not_false_eq_true, pc, ls, bs, and_true, true_and, and_self, Nat.reduceAdd, Nat.le_refl, leafP, pi, la]
          refine CallT.mk (t := ⟨⟩) R2 ?_
          simp (maxSteps := 10000000) only [↓sx, sx, ↓ty, ↓reduceIte, Nat.reduceEqDiff, Nat.reduceBeqDiff, Nat.reduceAdd, Nat.reduceLeDiff, Nat.reduceLT, Nat.reduceMul, Nat.reduceSub, Int.reduceEq, Int.reduceBNe, Int.reduceBEq, ne_eq, not_false_eq_true, pc, ls, bs, and_true, true_and, and_self, Nat.reduceAdd, Nat.le_refl, leafP, pi, la, ag, beq_self_eq_true]
theorem joins_law (xs : List PV) (h : FitA [.agg [.str, .str], .agg [.str, .str], .sl (.agg [.str, .str]), .int .i64] xs) : Meets Tryz.prog Gd 7 xs (.val (.bool true)) := by
  obtain ⟨_, _, rfl, h1, h⟩ := fita_cons h
  obtain ⟨_, _, rfl, h2, h⟩ := fita_cons h
  obtain ⟨_, _, rfl, h3, h⟩ := fita_cons h
  obtain ⟨_, _, rfl, h4, h⟩ := fita_cons h
  obtain rfl := fita_nil h
  obtain ⟨a, b, rfl⟩ := fit_iv h1
  obtain ⟨c, d, rfl⟩ := fit_iv h2
  obtain ⟨l, rfl, hl⟩ := fit_ivs h3
  obtain ⟨n, rfl, _⟩ := fit_i h4
  exact joins_n a b c d l n (by simpa [maxLen] using hl)
end Go.Proofs.YtkfmneenhochhaaGreatDoor.S
namespace Gb
open Go Go.RowKit Go.Sx
def wi (p q : Rat × Rat) : Prop := p.1 ≤ q.1 ∧ q.1 ≤ q.2 ∧ q.2 ≤ p.2
theorem mul_mono {a b x : Rat} (h : a ≤ b) (hx : 0 ≤ x) : a * x ≤ b * x := by have := Rat.mul_nonneg (show 0 ≤ b - a by grind) hx; grind
theorem mul_anti {a b x : Rat} (h : a ≤ b) (hx : x ≤ 0) : b * x ≤ a * x := by have := Rat.mul_nonneg (show 0 ≤ b - a by grind) (show 0 ≤ -x by grind); grind
theorem join_wi {p p' q q' : Rat × Rat} (h1 : wi p p') (h2 : wi q q') : wi (joinQ p q) (joinQ p' q') := by
  obtain ⟨a, b⟩ := p
  obtain ⟨c, d⟩ := p'
  obtain ⟨e, f⟩ := q
  obtain ⟨g, h⟩ := q'
  simp only [wi, joinQ, leastQ, mostQ] at *
  grind
theorem scale_wi {p q : Rat × Rat} (x : Rat) (h : wi p q) : wi (scaleQ p x) (scaleQ q x) := by
  obtain ⟨a, b⟩ := p
  obtain ⟨c, d⟩ := q
  obtain ⟨h1, h2, h3⟩ := h
  simp only [wi, scaleQ, joinQ, leastQ, mostQ] at *
  by_cases hx : 0 ≤ x
  · have m1 := mul_mono h1 hx
    have m2 := mul_mono h2 hx
    have m3 := mul_mono h3 hx
    generalize a * x = a at *
    generalize b * x = b at *
    generalize c * x = c at *
    generalize d * x = d at *
    grind
  · have hx : x ≤ 0 := by grind
    have m1 := mul_anti h1 hx
    have m2 := mul_anti h2 hx
    have m3 := mul_anti h3 hx
    generalize a * x = a at *
    generalize b * x = b at *
    generalize c * x = c at *
    generalize d * x = d at *
    grind
theorem times_wi {p q r : Rat × Rat} (h : wi p q) : wi (timesQ p r) (timesQ q r) := join_wi (scale_wi _ h) (scale_wi _ h)
theorem cor_wi_mul {a1 a2 n1 n2 b1 b2 : Rat} (h : wi (a1, a2) (n1, n2)) (hb : b1 ≤ b2) : wi (corQ (· * ·) a1 a2 b1 b2) (corQ (· * ·) n1 n2 b1 b2) := by
  rw [corQ_mul, corQ_mul]; exact times_wi h
theorem cor_wi_add {a1 a2 n1 n2 b1 b2 : Rat} (h : wi (a1, a2) (n1, n2)) (hb : b1 ≤ b2) : wi (corQ (· + ·) a1 a2 b1 b2) (corQ (· + ·) n1 n2 b1 b2) := by
  obtain ⟨h1, h2, h3⟩ := h
  dsimp only at h1 h2 h3
  rw [corQ_add (by grind) hb, corQ_add h2 hb]; simp only [wi]; grind
theorem cor_wi_sub {a1 a2 n1 n2 b1 b2 : Rat} (h : wi (a1, a2) (n1, n2)) (hb : b1 ≤ b2) : wi (corQ (· - ·) a1 a2 b1 b2) (corQ (· - ·) n1 n2 b1 b2) := by
  obtain ⟨h1, h2, h3⟩ := h
  dsimp only at h1 h2 h3
  rw [corQ_sub (by grind) hb, corQ_sub h2 hb]; simp only [wi]; grind
theorem corQ_sz {k : Nat} {f : Rat → Rat → Rat} {a1 a2 b1 b2 : Rat} (h : ∀ x y, (x = a1 ∨ x = a2) → (y = b1 ∨ y = b2) → Sz k (f x y)) : SzI k (corQ f a1 a2 b1 b2) := by
  unfold corQ
  refine endsQ_sz _ _ (h _ _ (.inl rfl) (.inl rfl)) (h _ _ (.inl rfl) (.inl rfl)) fun x hx => ?_
  simp only [List.mem_cons, List.not_mem_nil, or_false] at hx
  rcases hx with rfl | rfl | rfl
  · exact h _ _ (.inl rfl) (.inr rfl)
  · exact h _ _ (.inr rfl) (.inl rfl)
  · exact h _ _ (.inr rfl) (.inr rfl)
theorem meet_wi {p q : Rat × Rat} (h : wi p q) : imeetP (rT p.1) (rT p.2) (rT q.1) (rT q.2) = .tup [ivQ q, .val (.bool true)] := by
  obtain ⟨h1, h2, h3⟩ := h
  unfold imeetP
  rw [isIv_rT (show p.1 ≤ p.2 by grind), isIv_rT h2]
  simp only [ratOf_rT]
  rw [if_pos (by simp; grind), meet1, meet2]
  rw [mostQ_r h1, leastQ_r h3]
theorem meet_in {a1 a2 b1 b2 : Rat} (ha : a1 ≤ a2) (hb : b1 ≤ b2) : imeetP (rT a1) (rT a2) (rT b1) (rT b2) = .tup [ivP [] [], .val (.bool false)] ∨
    ∃ n, imeetP (rT a1) (rT a2) (rT b1) (rT b2) = .tup [ivQ n, .val (.bool true)] ∧ wi (a1, a2) n ∧ (n.1 = a1 ∨ n.1 = b1) ∧ (n.2 = a2 ∨ n.2 = b2) := by
  unfold imeetP
  rw [isIv_rT ha, isIv_rT hb]
  simp only [ratOf_rT]
  split
  · rename_i h
    right
    simp only [Bool.and_self, Bool.true_and, Bool.and_eq_true, Bool.not_eq_true', decide_eq_false_iff_not] at h
    refine ⟨_, rfl, ?_⟩
    rw [meet1, meet2]
    simp only [wi, mostQ, leastQ]
    grind
  · exact .inl rfl
theorem iv_of {a b : List UInt8} (h : isIv a b = true) : ∃ x y : Rat, a = rT x ∧ b = rT y ∧ x ≤ y ∧ Sz (a.length / 9 + 1) x ∧ Sz (b.length / 9 + 1) y := by
  obtain ⟨h1, h2, h3⟩ := isIv_spec h
  obtain ⟨x, rfl, sx⟩ := rT_of h1
  obtain ⟨y, rfl, sy⟩ := rT_of h2
  rw [ratOf_rT, ratOf_rT] at h3
  exact ⟨x, y, rfl, rfl, h3, sx, sy⟩
theorem iv_no {a b c d : List UInt8} (h : isIv a b = false) : imeetP a b c d = .tup [ivP [] [], .val (.bool false)] ∧ imeetP c d a b = .tup [ivP [] [], .val (.bool false)] := by
  unfold imeetP
  rw [h]
  simp
theorem icor_q (f : Rat → Rat → Rat) {a1 a2 b1 b2 : Rat} (ha : a1 ≤ a2) (hb : b1 ≤ b2) : icorP f (rT a1) (rT a2) (rT b1) (rT b2) = .tup [ivQ (corQ f a1 a2 b1 b2), iP 0] := by
  unfold icorP
  rw [isIv_rT ha, isIv_rT hb]
  simp only [Bool.and_self, if_true, ratOf_rT]
end Gb
namespace Go.Proofs.YtkfmneenhochhaaGreatDoor.S
open Go Go.Sx Go.RowKit Gb Go.Shelf
theorem wide_3 (a b c d e f : List UInt8) : Meets Tryz.prog Gd 11 [.sl 3 [.val (.string ⟨a.toArray⟩), .val (.string ⟨b.toArray⟩), .val (.string ⟨c.toArray⟩), .val (.string ⟨d.toArray⟩), .val (.string ⟨e.toArray⟩), .val (.string ⟨f.toArray⟩)]] (.val (.bool (wideB (a, b) || wideB (c, d) || wideB (e, f)))) := by
  have := wideL_n [(a, b), (c, d), (e, f)] (by simp)
  rw [show [(a, b), (c, d), (e, f)].any wideB = (wideB (a, b) || wideB (c, d) || wideB (e, f)) by simp [Bool.or_assoc]] at this
  exact this
structure OpN (g : FuncId) (f : Rat → Rat → Rat) : Prop where
  m : ∀ a1 a2 b1 b2 : List UInt8, a1.length < 13000 → a2.length < 13000 → b1.length < 13000 → b2.length < 13000 → Meets Tryz.prog Gd g [ivP a1 a2, ivP b1 b2] (icorP f a1 a2 b1 b2)
  w : ∀ a1 a2 n1 n2 b1 b2 : Rat, wi (a1, a2) (n1, n2) → b1 ≤ b2 → wi (corQ f a1 a2 b1 b2) (corQ f n1 n2 b1 b2)
  s : ∀ x y : Rat, Sz 10 x → Sz 10 y → Sz 30 (f x y)
def opF (i : Nat) : FuncId := [21, 23, 25].getD i 0
theorem opN (i : Nat) (h : i < 3) : ∃ f, OpN (opF i) f := by
  match i, h with
  | 0, _ => exact ⟨(· + ·), iadd2_n, fun _ _ _ _ _ _ h hb => cor_wi_add h hb, fun x y hx hy => (hx.add hy).mono (by omega)⟩
  | 1, _ => exact ⟨(· - ·), isub2_n, fun _ _ _ _ _ _ h hb => cor_wi_sub h hb, fun x y hx hy => (hx.sub hy).mono (by omega)⟩
  | 2, _ => exact ⟨(· * ·), imul2_n, fun _ _ _ _ _ _ h hb => cor_wi_mul h hb, fun x y hx hy => (hx.mul hy).mono (by omega)⟩
def C3 : List PV := [.clo 21 [] [], .clo 23 [] [], .clo 25 [] []]
theorem C3_at (i : Nat) (h : i < 3) : C3[i]? = some (.clo (opF i) [] []) := by
  match i, h with
  | 0, _ => rfl
  | 1, _ => rfl
  | 2, _ => rfl
set_option maxRecDepth 100000 in
set_option maxHeartbeats 8000000 in
theorem narrows_n (a b c d e f : List UInt8) : Meets Tryz.prog Gd 5 [ivP a b, ivP c d, ivP e f] (.val (.bool true)) := by
  refine meets_of_vc (Y := {}) (N := 82) (rs := [.tmp 6]) mix tk gd Tryz.func5 rfl (by kernel_rfl) rfl rfl (by simp) (by kernel_rfl) ?_
  simp (maxSteps := 10000000) only [↓sx, sx, ↓ty, ↓reduceIte, Nat.reduceEqDiff, Nat.reduceBeqDiff, Nat.reduceAdd, Nat.reduceLeDiff, Nat.reduceLT, Nat.reduceMul, Nat.reduceSub, Int.reduceEq, Int.reduceBNe, Int.reduceBEq, ne_eq, not_false_eq_true, pc, ls, bs, and_true, true_and, and_self, Nat.reduceAdd, Nat.le_refl, leafP, pi, la]
  refine CallT.mk (t := ⟨⟩) awake_n ?_
  simp (maxSteps := 10000000) only [↓sx, sx, ↓ty, ↓reduceIte, Nat.reduceEqDiff, Nat.reduceBeqDiff, Nat.reduceAdd, Nat.reduceLeDiff, Nat.reduceLT, Nat.reduceMul, Nat.reduceSub, Int.reduceEq, Int.reduceBNe, Int.reduceBEq, ne_eq, not_false_eq_true, pc, ls, bs, and_true, true_and, and_self, Nat.reduceAdd, Nat.le_refl, leafP, pi, la]
  refine CallT.mk (t := ⟨⟩) (wide_3 a b c d e f) ?_
  cases hw : (wideB (a, b) || wideB (c, d) || wideB (e, f)) with
  | true =>
    simp (maxSteps := 10000000) only [↓sx, sx, ↓ty, ↓reduceIte, Nat.reduceEqDiff, Nat.reduceBeqDiff, Nat.reduceAdd, Nat.reduceLeDiff, Nat.reduceLT, Nat.reduceMul, Nat.reduceSub, Int.reduceEq, Int.reduceBNe, Int.reduceBEq, ne_eq, not_false_eq_true, pc, ls, bs, and_true, true_and, and_self, Nat.reduceAdd, Nat.le_refl, leafP, pi, la]
    refine CallT.mk (t := ⟨⟩) awake_n ?_
    simp (maxSteps := 10000000) only [↓sx, sx, ↓ty, ↓reduceIte, Nat.reduceEqDiff, Nat.reduceBeqDiff, Nat.reduceAdd, Nat.reduceLeDiff, Nat.reduceLT, Nat.reduceMul, Nat.reduceSub, Int.reduceEq, Int.reduceBNe, Int.reduceBEq, ne_eq, not_false_eq_true, pc, ls, bs, and_true, true_and, and_self, Nat.reduceAdd, Nat.le_refl, leafP, pi, la]
  | false =>
    rw [Bool.or_eq_false_iff] at hw
    obtain ⟨h1, h2, h3, h4⟩ := wide2_no hw.1
    have h5 := wideB_no hw.2
    dsimp only at h5
    simp (maxSteps := 10000000) only [↓sx, sx, ↓ty, ↓reduceIte, Nat.reduceEqDiff, Nat.reduceBeqDiff, Nat.reduceAdd, Nat.reduceLeDiff, Nat.reduceLT, Nat.reduceMul, Nat.reduceSub, Int.reduceEq, Int.reduceBNe, Int.reduceBEq, ne_eq, not_false_eq_true, pc, ls, bs, and_true, true_and, and_self, Nat.reduceAdd, Nat.le_refl, leafP, pi, la]
    have M1 := imeet_n a b e f (by omega) (by omega) (by omega) (by omega)
    have no : imeetP a b e f = .tup [ivP [] [], .val (.bool false)] ∨ ∃ x1 x2 z1 z2 n, a = rT x1 ∧ b = rT x2 ∧ e = rT z1 ∧ f = rT z2 ∧ Sz 10 x1 ∧ Sz 10 x2 ∧ Sz 10 n.1 ∧ Sz 10 n.2 ∧ imeetP a b e f = .tup [ivQ n, .val (.bool true)] ∧ wi (x1, x2) n := by
      cases i1 : isIv a b with
      | false => exact .inl (iv_no i1).1
      | true =>
        cases i2 : isIv e f with
        | false => exact .inl (iv_no i2).2
        | true =>
          obtain ⟨x1, x2, rfl, rfl, hx, s1, s2⟩ := iv_of i1
          obtain ⟨z1, z2, rfl, rfl, hz, s3, s4⟩ := iv_of i2
          rcases meet_in hx hz with h | ⟨n, h, hn, e1, e2⟩
          · exact .inl h
          · refine .inr ⟨x1, x2, z1, z2, n, rfl, rfl, rfl, rfl, s1.mono (by omega), s2.mono (by omega), ?_, ?_, h, hn⟩
            · rcases e1 with h | h <;> rw [h]
              · exact s1.mono (by omega)
              · exact s3.mono (by omega)
            · rcases e2 with h | h <;> rw [h]
              · exact s2.mono (by omega)
              · exact s4.mono (by omega)
    rcases no with hx | ⟨x1, x2, z1, z2, n, rfl, rfl, rfl, rfl, s1, s2, s3, s4, hx, hn⟩
    · rw [hx] at M1
      refine CallT.mk (t := ⟨⟩) M1 ?_
      simp (maxSteps := 10000000) only [↓sx, sx, ↓ty, ↓reduceIte, Nat.reduceEqDiff, Nat.reduceBeqDiff, Nat.reduceAdd, Nat.reduceLeDiff, Nat.reduceLT, Nat.reduceMul, Nat.reduceSub, Int.reduceEq, Int.reduceBNe, Int.reduceBEq, ne_eq, not_false_eq_true, pc, ls, bs, and_true, true_and, and_self, Nat.reduceAdd, Nat.le_refl, leafP, pi, la]
    · rw [hx] at M1
      refine CallT.mk (t := ⟨⟩) M1 ?_
      simp (maxSteps := 10000000) only [↓sx, sx, ↓ty, ↓reduceIte, Nat.reduceEqDiff, Nat.reduceBeqDiff, Nat.reduceAdd, Nat.reduceLeDiff, Nat.reduceLT, Nat.reduceMul, Nat.reduceSub, Int.reduceEq, Int.reduceBNe, Int.reduceBEq, ne_eq, not_false_eq_true, pc, ls, bs, and_true, true_and, and_self, Nat.reduceAdd, Nat.le_refl, leafP, pi, la]
      refine CallT.mk (t := ⟨⟩) (ivalid2_n c d (by omega) (by omega)) ?_
      cases hv : isIv c d with
      | false =>
        simp (maxSteps := 10000000) only [↓sx, sx, ↓ty, ↓reduceIte, Nat.reduceEqDiff, Nat.reduceBeqDiff, Nat.reduceAdd, Nat.reduceLeDiff, Nat.reduceLT, Nat.reduceMul, Nat.reduceSub, Int.reduceEq, Int.reduceBNe, Int.reduceBEq, ne_eq, not_false_eq_true, pc, ls, bs, and_true, true_and, and_self, Nat.reduceAdd, Nat.le_refl, leafP, pi, la]
      | true =>
        obtain ⟨y1, y2, rfl, rfl, hy, t1, t2⟩ := iv_of hv
        have t1 := t1.mono (m := 10) (by omega)
        have t2 := t2.mono (m := 10) (by omega)
        simp (maxSteps := 10000000) only [↓sx, sx, ↓ty, ↓reduceIte, Nat.reduceEqDiff, Nat.reduceBeqDiff, Nat.reduceAdd, Nat.reduceLeDiff, Nat.reduceLT, Nat.reduceMul, Nat.reduceSub, Int.reduceEq, Int.reduceBNe, Int.reduceBEq, ne_eq, not_false_eq_true, pc, ls, bs, and_true, true_and, and_self, Nat.reduceAdd, Nat.le_refl, leafP, pi, la]
        refine loopK_of (fun i : Nat => [(3, .box 3 0), (4, .box 4 0), (7, .box 7 0), (40, .p (.sl 3 C3)), (41, .p (.val (.int .i64 ((3 : Nat) : Int)))), (42, .p (.val (.int .i64 (i : Nat))))])
          (fun i => [(3, (24, [strP (rT x1), strP (rT x2)])), (4, (24, [strP (rT y1), strP (rT y2)])), (7, (24, [strP (rT n.1), strP (rT n.2)]))]) (fun _ => [])
          (fun i => i ≤ 3) (fun i => 3 - i) 0 (Nat.zero_le _) ?_ ?_
        · simp (maxSteps := 10000000) only [isE_nil, is_cons, bo_p, bo_box, bo_orow, bo_rowp, any_cons', all_cons', all_nil', Bool.true_or, Bool.or_true, ↓sx, sx, ↓reduceIte, Nat.reduceEqDiff, Nat.reduceBeqDiff, pc, strP_c]
          exact ⟨rfl, rfl⟩
        · rintro i hi
          by_cases hil : i < 3
          · have e1 : decide ((i : Int) < ((3 : Nat) : Int)) = true := by simp; omega
            have hd := C3_at i hil
            have hn3 : C3.length = 3 := rfl
            obtain ⟨F, hF⟩ := opN i hil
            have w1 := hF.w x1 x2 n.1 n.2 y1 y2 hn hy
            have q1 := hF.m (rT x1) (rT x2) (rT y1) (rT y2) (by omega) (by omega) (by omega) (by omega)
            have z1 := corQ_sz (f := F) (a1 := x1) (a2 := x2) (b1 := y1) (b2 := y2) (k := 30) fun x y hx hy => hF.s x y (by rcases hx with rfl | rfl <;> assumption) (by rcases hy with rfl | rfl <;> assumption)
            have z2 := corQ_sz (f := F) (a1 := n.1) (a2 := n.2) (b1 := y1) (b2 := y2) (k := 30) fun x y hx hy => hF.s x y (by rcases hx with rfl | rfl <;> assumption) (by rcases hy with rfl | rfl <;> assumption)
            have q2 := hF.m (rT n.1) (rT n.2) (rT y1) (rT y2) (by have := rT_len s3; omega) (by have := rT_len s4; omega) (by omega) (by omega)
            rw [icor_q F (by have := hn.1; have := hn.2.1; have := hn.2.2; dsimp only at *; grind) hy] at q1
            rw [icor_q F hn.2.1 hy] at q2
            generalize corQ F x1 x2 y1 y2 = u at *
            generalize corQ F n.1 n.2 y1 y2 = v at *
            have q3 := imeet_n (rT u.1) (rT u.2) (rT v.1) (rT v.2) (by have := rT_len z1.1; omega) (by have := rT_len z1.2; omega) (by have := rT_len z2.1; omega) (by have := rT_len z2.2; omega)
            rw [meet_wi w1] at q3
            simp (maxSteps := 10000000) only [↓sx, sx, ↓ty, ↓reduceIte, Nat.reduceEqDiff, Nat.reduceBeqDiff, Nat.reduceAdd, Nat.reduceLeDiff, Nat.reduceLT, Nat.reduceMul, Nat.reduceSub, Int.reduceEq, Int.reduceBNe, Int.reduceBEq, ne_eq, not_false_eq_true, pc, ls, bs, and_true, true_and, and_self, Nat.reduceAdd, Nat.le_refl, leafP, e1, hd, hn3, strP_c]
            refine ⟨⟨by omega, hil⟩, CallT.mk (t := ⟨⟩) q1 ?_⟩
            simp (maxSteps := 10000000) only [↓sx, sx, ↓ty, ↓reduceIte, Nat.reduceEqDiff, Nat.reduceBeqDiff, Nat.reduceAdd, Nat.reduceLeDiff, Nat.reduceLT, Nat.reduceMul, Nat.reduceSub, Int.reduceEq, Int.reduceBNe, Int.reduceBEq, ne_eq, not_false_eq_true, pc, ls, bs, and_true, true_and, and_self, Nat.reduceAdd, Nat.le_refl, leafP, pi, la]
            refine CallT.mk (t := ⟨⟩) q2 ?_
            simp (maxSteps := 10000000) only [↓sx, sx, ↓ty, ↓reduceIte, Nat.reduceEqDiff, Nat.reduceBeqDiff, Nat.reduceAdd, Nat.reduceLeDiff, Nat.reduceLT, Nat.reduceMul, Nat.reduceSub, Int.reduceEq, Int.reduceBNe, Int.reduceBEq, ne_eq, not_false_eq_true, pc, ls, bs, and_true, true_and, and_self, Nat.reduceAdd, Nat.le_refl, leafP, pi, la]
            refine CallT.mk (t := ⟨⟩) q3 ?_
            simp (maxSteps := 10000000) only [↓sx, sx, ↓ty, ↓reduceIte, Nat.reduceEqDiff, Nat.reduceBeqDiff, Nat.reduceAdd, Nat.reduceLeDiff, Nat.reduceLT, Nat.reduceMul, Nat.reduceSub, Int.reduceEq, Int.reduceBNe, Int.reduceBEq, ne_eq, not_false_eq_true, pc, ls, bs, and_true, true_and, and_self, Nat.reduceAdd, Nat.le_refl, leafP, pi, la, ag, beq_self_eq_true]
            refine NextK.mk (i + 1) (by omega) (by omega) ?_
            simp (maxSteps := 10000000) only [isE_nil, is_cons, bo_p, bo_box, bo_orow, bo_rowp, any_cons', all_cons', all_nil', Bool.true_or, Bool.or_true, ↓sx, sx, ↓reduceIte, Nat.reduceEqDiff, Nat.reduceBeqDiff, pc, strP_c]
            rw [i64_id (by omega) (by omega)]
            rfl
          · obtain rfl : i = 3 := by omega
            have e1 : decide (((3 : Nat) : Int) < ((3 : Nat) : Int)) = false := by simp
            simp (maxSteps := 10000000) only [↓sx, sx, ↓ty, ↓reduceIte, Nat.reduceEqDiff, Nat.reduceBeqDiff, Nat.reduceAdd, Nat.reduceLeDiff, Nat.reduceLT, Nat.reduceMul, Nat.reduceSub, Int.reduceEq, Int.reduceBNe, Int.reduceBEq, ne_eq, not_false_eq_true, pc, ls, bs, and_true, true_and, and_self, Nat.reduceAdd, Nat.le_refl, leafP, e1]
theorem narrows_law (xs : List PV) (h : FitA [.agg [.str, .str], .agg [.str, .str], .agg [.str, .str]] xs) : Meets Tryz.prog Gd 5 xs (.val (.bool true)) := by
  obtain ⟨_, _, rfl, h1, h⟩ := fita_cons h
  obtain ⟨_, _, rfl, h2, h⟩ := fita_cons h
  obtain ⟨_, _, rfl, h3, h⟩ := fita_cons h
  obtain rfl := fita_nil h
  obtain ⟨a, b, rfl⟩ := fit_iv h1
  obtain ⟨c, d, rfl⟩ := fit_iv h2
  obtain ⟨e, f, rfl⟩ := fit_iv h3
  exact narrows_n a b c d e f
end Go.Proofs.YtkfmneenhochhaaGreatDoor.S
namespace Gb
open Go Go.RowKit Go.Sx
theorem n_ne {n : Int} (h : 1 ≤ n) : (n : Rat) ≠ 0 := by rw [ne_eq, Rat.intCast_eq_zero_iff]; omega
theorem n_pos {n : Int} (h : 1 ≤ n) : (0 : Rat) < n := by
  have : ((0 : Int) : Rat) < ((n : Int) : Rat) := Rat.intCast_lt_intCast.2 (by omega)
  simpa using this
theorem downQ_mul (a : Rat) {n : Int} (h : 1 ≤ n) : downQ a n * n = ((a * n).floor : Rat) := by
  unfold downQ; exact Rat.div_mul_cancel (n_ne h)
theorem downQ_idem (a : Rat) {n : Int} (h : 1 ≤ n) : downQ (downQ a n) n = downQ a n := by
  show (((downQ a n * n).floor : Int) : Rat) / n = downQ a n
  rw [downQ_mul a h, Rat.floor_intCast]
  rfl
theorem downQ_near (a : Rat) {n : Int} (h : 1 ≤ n) : 0 ≤ (a - downQ a n) * n ∧ (a - downQ a n) * n < 1 := by
  have e : (a - downQ a n) * n = a * n - ((a * n).floor : Rat) := by rw [← downQ_mul a h]; grind
  rw [e]
  have h1 := Rat.floor_le (a * n)
  have h2 := Rat.lt_floor (x := a * n)
  constructor <;> grind
theorem downQ_le (a : Rat) {n : Int} (h : 1 ≤ n) : downQ a n ≤ a := by
  have h1 := (downQ_near a h).1
  have h2 := n_pos h
  refine Rat.le_of_mul_le_mul_right (c := n) ?_ h2
  grind
theorem downQ_sz6 {a : Rat} {n : Int} {k : Nat} (ha : Sz k a) (hk : 2 ≤ k) (h1 : 1 ≤ n) (h2 : n ≤ 65535) : Sz (4 * k + 4) (downQ a n) := by
  have hn : Lw n.natAbs ≤ 1 := Lw_le (by show n.natAbs < 1000000000 ^ 1; omega)
  have sn : Sz 1 (n : Rat) := Sz.int hn (by omega)
  have sm := ha.mul (sn.mono (m := k) (by omega))
  have sf : Sz (2 * k + 2) (((a * n).floor : Int) : Rat) := Sz.int (Lw_floor sm) (by omega)
  exact (sf.div (sn.mono (by omega)) (by omega)).mono (by omega)
theorem meet_wi' {p q : Rat × Rat} (h : wi p q) : imeetP (rT q.1) (rT q.2) (rT p.1) (rT p.2) = .tup [ivQ q, .val (.bool true)] := by
  obtain ⟨h1, h2, h3⟩ := h
  unfold imeetP
  rw [isIv_rT (show p.1 ≤ p.2 by grind), isIv_rT h2]
  simp only [ratOf_rT]
  rw [if_pos (by simp; grind), meet1, meet2]
  rw [mostQ_l h1, leastQ_l h3]
theorem iround_q {x y : Rat} {n : Int} (h : x ≤ y) (h1 : 1 ≤ n) (h2 : n ≤ 1000000000) : iroundP (rT x) (rT y) n = .tup [ivQ (downQ x n, -downQ (-y) n), iP 0] := by
  unfold iroundP
  rw [isIv_rT h, if_pos rfl, if_neg (by omega)]
  simp only [ratOf_rT]
theorem siP_rt (n : Int) : siP n = rtP (n : Rat) := by unfold siP rtP; rw [rT_int]
theorem rtP_1 : rtP 1 = .val (.string ⟨#[49]⟩) := by
  have := siP_rt 1
  rw [show ((1 : Int) : Rat) = 1 from rfl] at this
  rw [← this]
  unfold siP strP
  rw [show iD 1 = [49] from by unfold iD; rw [if_neg (by decide)]; exact dec_1]
theorem Sz1 (k : Nat) (hk : 1 ≤ k) : Sz k 1 := Sz.int (z := 1) (Nat.le_trans (Lw_le (by decide)) hk) hk
end Gb
namespace Go.Proofs.YtkfmneenhochhaaGreatDoor.S
open Go Go.Sx Go.RowKit Gb Go.Shelf
set_option maxRecDepth 100000 in
set_option maxHeartbeats 8000000 in
theorem near_n (x y : Rat) (n : Int) (hx : Sz 40 x) (hy : Sz 40 y) (h1 : 1 ≤ n) (h2 : n ≤ 65535) (h3 : 0 ≤ (x - y) * n) (h4 : (x - y) * n < 1) : Meets Tryz.prog Gd 33 [rtP x, rtP y, iP n] (.val (.bool true)) := by
  refine meets_of_vc (Y := {}) (N := 54) (rs := [.tmp 6]) mix tk gd Tryz.func33 rfl (by kernel_rfl) rfl rfl (by simp) (by kernel_rfl) ?_
  have hn : Lw n.natAbs ≤ 1 := Lw_le (by show n.natAbs < 1000000000 ^ 1; omega)
  have sn : Sz 1 (n : Rat) := Sz.int hn (by omega)
  have sd := hx.sub hy
  have sp := sd.mul (sn.mono (m := 81) (by omega))
  simp (maxSteps := 10000000) only [↓sx, sx, ↓ty, ↓reduceIte, Nat.reduceEqDiff, Nat.reduceBeqDiff, Nat.reduceAdd, Nat.reduceLeDiff, Nat.reduceLT, Nat.reduceMul, Nat.reduceSub, Int.reduceEq, Int.reduceBNe, Int.reduceBEq, ne_eq, not_false_eq_true, pc, ls, bs, and_true, true_and, and_self, Nat.reduceAdd, Nat.le_refl, leafP]
  refine CallT.mk (t := ⟨⟩) (rop_q rsub_n x y (hx.mono (by omega)) (hy.mono (by omega))) ?_
  simp (maxSteps := 10000000) only [↓sx, sx, ↓ty, ↓reduceIte, Nat.reduceEqDiff, Nat.reduceBeqDiff, Nat.reduceAdd, Nat.reduceLeDiff, Nat.reduceLT, Nat.reduceMul, Nat.reduceSub, Int.reduceEq, Int.reduceBNe, Int.reduceBEq, ne_eq, not_false_eq_true, pc, ls, bs, and_true, true_and, and_self, Nat.reduceAdd, Nat.le_refl, leafP]
  refine CallT.mk (t := ⟨⟩) (itoa_n n (by omega) (by omega)) ?_
  rw [siP_rt]
  simp (maxSteps := 10000000) only [↓sx, sx, ↓ty, ↓reduceIte, Nat.reduceEqDiff, Nat.reduceBeqDiff, Nat.reduceAdd, Nat.reduceLeDiff, Nat.reduceLT, Nat.reduceMul, Nat.reduceSub, Int.reduceEq, Int.reduceBNe, Int.reduceBEq, ne_eq, not_false_eq_true, pc, ls, bs, and_true, true_and, and_self, Nat.reduceAdd, Nat.le_refl, leafP]
  refine CallT.mk (t := ⟨⟩) (rop_q rmul_n (x - y) n (sd.mono (by omega)) (sn.mono (by omega))) ?_
  simp (maxSteps := 10000000) only [↓sx, sx, ↓ty, ↓reduceIte, Nat.reduceEqDiff, Nat.reduceBeqDiff, Nat.reduceAdd, Nat.reduceLeDiff, Nat.reduceLT, Nat.reduceMul, Nat.reduceSub, Int.reduceEq, Int.reduceBNe, Int.reduceBEq, ne_eq, not_false_eq_true, pc, ls, bs, and_true, true_and, and_self, Nat.reduceAdd, Nat.le_refl, leafP]
  refine CallT.to (t := ⟨⟩) (rcmp_q ((x - y) * n) 0 (sp.mono (by omega)) (Sz0 _ (by omega))) (by rw [rtP_0]; rfl) ?_
  simp (maxSteps := 10000000) only [↓sx, sx, ↓ty, ↓reduceIte, Nat.reduceEqDiff, Nat.reduceBeqDiff, Nat.reduceAdd, Nat.reduceLeDiff, Nat.reduceLT, Nat.reduceMul, Nat.reduceSub, Int.reduceEq, Int.reduceBNe, Int.reduceBEq, ne_eq, not_false_eq_true, pc, ls, bs, and_true, true_and, and_self, Nat.reduceAdd, Nat.le_refl, leafP]
  refine CallT.to (t := ⟨⟩) (rcmp_q ((x - y) * n) 1 (sp.mono (by omega)) (Sz1 _ (by omega))) (by rw [rtP_1]; rfl) ?_
  have d1 : decide (((x - y) * n - 0).num.sign ≥ 0) = true := decide_eq_true ((ge_sign _ _).2 h3)
  have d2 : decide (((x - y) * n - 1).num.sign < 0) = true := decide_eq_true ((lt_sign _ _).2 h4)
  simp (maxSteps := 10000000) only [↓sx, sx, ↓ty, ↓reduceIte, Nat.reduceEqDiff, Nat.reduceBeqDiff, Nat.reduceAdd, Nat.reduceLeDiff, Nat.reduceLT, Nat.reduceMul, Nat.reduceSub, Int.reduceEq, Int.reduceBNe, Int.reduceBEq, ne_eq, not_false_eq_true, pc, ls, bs, and_true, true_and, and_self, Nat.reduceAdd, Nat.le_refl, leafP, w4, Int.reduceAdd, d1, d2]
set_option maxRecDepth 100000 in
set_option maxHeartbeats 8000000 in
theorem rounds_n (a b : List UInt8) (n : Int) (hn0 : 0 ≤ n) (hn1 : n ≤ 65535) : Meets Tryz.prog Gd 6 [ivP a b, .val (.int .u16 n)] (.val (.bool true)) := by
  refine meets_of_vc (Y := {}) (N := 86) (rs := [.tmp 4]) mix tk gd Tryz.func6 rfl (by kernel_rfl) rfl rfl (by simp) (by kernel_rfl) ?_
  have cv : IntKind.i64.wrap n = n := i64_id (by omega) (by omega)
  simp (maxSteps := 10000000) only [↓sx, sx, ↓ty, ↓reduceIte, Nat.reduceEqDiff, Nat.reduceBeqDiff, Nat.reduceAdd, Nat.reduceLeDiff, Nat.reduceLT, Nat.reduceMul, Nat.reduceSub, Int.reduceEq, Int.reduceBNe, Int.reduceBEq, ne_eq, not_false_eq_true, pc, ls, bs, and_true, true_and, and_self, Nat.reduceAdd, Nat.le_refl, leafP, pi, la]
  refine CallT.mk (t := ⟨⟩) awake_n ?_
  simp (maxSteps := 10000000) only [↓sx, sx, ↓ty, ↓reduceIte, Nat.reduceEqDiff, Nat.reduceBeqDiff, Nat.reduceAdd, Nat.reduceLeDiff, Nat.reduceLT, Nat.reduceMul, Nat.reduceSub, Int.reduceEq, Int.reduceBNe, Int.reduceBEq, ne_eq, not_false_eq_true, pc, ls, bs, and_true, true_and, and_self, Nat.reduceAdd, Nat.le_refl, leafP, pi, la]
  refine CallT.mk (t := ⟨⟩) (wide_1 a b) ?_
  cases hw : wideB (a, b) with
  | true =>
    simp (maxSteps := 10000000) only [↓sx, sx, ↓ty, ↓reduceIte, Nat.reduceEqDiff, Nat.reduceBeqDiff, Nat.reduceAdd, Nat.reduceLeDiff, Nat.reduceLT, Nat.reduceMul, Nat.reduceSub, Int.reduceEq, Int.reduceBNe, Int.reduceBEq, ne_eq, not_false_eq_true, pc, ls, bs, and_true, true_and, and_self, Nat.reduceAdd, Nat.le_refl, leafP, pi, la]
    refine CallT.mk (t := ⟨⟩) awake_n ?_
    simp (maxSteps := 10000000) only [↓sx, sx, ↓ty, ↓reduceIte, Nat.reduceEqDiff, Nat.reduceBeqDiff, Nat.reduceAdd, Nat.reduceLeDiff, Nat.reduceLT, Nat.reduceMul, Nat.reduceSub, Int.reduceEq, Int.reduceBNe, Int.reduceBEq, ne_eq, not_false_eq_true, pc, ls, bs, and_true, true_and, and_self, Nat.reduceAdd, Nat.le_refl, leafP, pi, la]
  | false =>
    have h1 := wideB_no hw
    dsimp only at h1
    by_cases hz : n = 0
    · have d0 : (n == 0) = true := by simp [hz]
      simp (maxSteps := 10000000) only [↓sx, sx, ↓ty, ↓reduceIte, Nat.reduceEqDiff, Nat.reduceBeqDiff, Nat.reduceAdd, Nat.reduceLeDiff, Nat.reduceLT, Nat.reduceMul, Nat.reduceSub, Int.reduceEq, Int.reduceBNe, Int.reduceBEq, ne_eq, not_false_eq_true, pc, ls, bs, and_true, true_and, and_self, Nat.reduceAdd, Nat.le_refl, leafP, pi, la, d0]
      refine CallT.mk (t := ⟨⟩) awake_n ?_
      simp (maxSteps := 10000000) only [↓sx, sx, ↓ty, ↓reduceIte, Nat.reduceEqDiff, Nat.reduceBeqDiff, Nat.reduceAdd, Nat.reduceLeDiff, Nat.reduceLT, Nat.reduceMul, Nat.reduceSub, Int.reduceEq, Int.reduceBNe, Int.reduceBEq, ne_eq, not_false_eq_true, pc, ls, bs, and_true, true_and, and_self, Nat.reduceAdd, Nat.le_refl, leafP, pi, la]
    · have d0 : (n == 0) = false := by simp [hz]
      simp (maxSteps := 10000000) only [↓sx, sx, ↓ty, ↓reduceIte, Nat.reduceEqDiff, Nat.reduceBeqDiff, Nat.reduceAdd, Nat.reduceLeDiff, Nat.reduceLT, Nat.reduceMul, Nat.reduceSub, Int.reduceEq, Int.reduceBNe, Int.reduceBEq, ne_eq, not_false_eq_true, pc, ls, bs, and_true, true_and, and_self, Nat.reduceAdd, Nat.le_refl, leafP, pi, la, d0, cv]
      have R1 := iround_n a b n (by omega) (by omega)
      cases hv : isIv a b with
      | false =>
        have hx : iroundP a b n = .tup [ivP [] [], iP 1] := by unfold iroundP; rw [hv]; simp
        rw [hx] at R1
        refine CallT.mk (t := ⟨⟩) R1 ?_
        simp (maxSteps := 10000000) only [↓sx, sx, ↓ty, ↓reduceIte, Nat.reduceEqDiff, Nat.reduceBeqDiff, Nat.reduceAdd, Nat.reduceLeDiff, Nat.reduceLT, Nat.reduceMul, Nat.reduceSub, Int.reduceEq, Int.reduceBNe, Int.reduceBEq, ne_eq, not_false_eq_true, pc, ls, bs, and_true, true_and, and_self, Nat.reduceAdd, Nat.le_refl, leafP, pi, la, ag, beq_self_eq_true]
        refine CallT.mk (t := ⟨⟩) (ivalid2_n a b (by omega) (by omega)) ?_
        simp (maxSteps := 10000000) only [↓sx, sx, ↓ty, ↓reduceIte, Nat.reduceEqDiff, Nat.reduceBeqDiff, Nat.reduceAdd, Nat.reduceLeDiff, Nat.reduceLT, Nat.reduceMul, Nat.reduceSub, Int.reduceEq, Int.reduceBNe, Int.reduceBEq, ne_eq, not_false_eq_true, pc, ls, bs, and_true, true_and, and_self, Nat.reduceAdd, Nat.le_refl, leafP, pi, la, hv]
      | true =>
        obtain ⟨x, y, rfl, rfl, hxy, s1, s2⟩ := iv_of hv
        have s1 := s1.mono (m := 6) (by omega)
        have s2 := s2.mono (m := 6) (by omega)
        have z1 := downQ_sz6 s1 (by omega) (show 1 ≤ n by omega) hn1
        have z2 := downQ_sz6 s2.neg (by omega) (show 1 ≤ n by omega) hn1
        have l1 := downQ_le x (show 1 ≤ n by omega)
        have l2 := downQ_le (-y) (show 1 ≤ n by omega)
        have k1 := downQ_near x (show 1 ≤ n by omega)
        have k2 := downQ_near (-y) (show 1 ≤ n by omega)
        have i1 := downQ_idem x (show 1 ≤ n by omega)
        have i2 := downQ_idem (-y) (show 1 ≤ n by omega)
        rw [iround_q hxy (by omega) (by omega)] at R1
        have R2 := iround_n (rT (downQ x n)) (rT (-downQ (-y) n)) n (by have := rT_len z1; omega) (by have := rT_len z2.neg; omega)
        rw [iround_q (by grind) (by omega) (by omega)] at R2
        rw [i1, show - -downQ (-y) n = downQ (-y) n by grind, i2] at R2
        have M := imeet_n (rT x) (rT y) (rT (downQ x n)) (rT (-downQ (-y) n)) (by omega) (by omega) (by have := rT_len z1; omega) (by have := rT_len z2.neg; omega)
        rw [meet_wi' (p := (downQ x n, -downQ (-y) n)) (q := (x, y)) ⟨l1, hxy, by dsimp only; grind⟩] at M
        have N1 := near_n x (downQ x n) n (s1.mono (by omega)) (z1.mono (by omega)) (by omega) hn1 k1.1 k1.2
        have N2 := near_n (-downQ (-y) n) y n (z2.neg.mono (by omega)) (s2.mono (by omega)) (by omega) hn1 (by have := k2.1; grind) (by have := k2.2; grind)
        generalize downQ x n = u at *
        generalize -downQ (-y) n = v at *
        refine CallT.mk (t := ⟨⟩) R1 ?_
        simp (maxSteps := 10000000) only [↓sx, sx, ↓ty, ↓reduceIte, Nat.reduceEqDiff, Nat.reduceBeqDiff, Nat.reduceAdd, Nat.reduceLeDiff, Nat.reduceLT, Nat.reduceMul, Nat.reduceSub, Int.reduceEq, Int.reduceBNe, Int.reduceBEq, ne_eq, not_false_eq_true, pc, ls, bs, and_true, true_and, and_self, Nat.reduceAdd, Nat.le_refl, leafP, pi, la, cv]
        refine CallT.mk (t := ⟨⟩) R2 ?_
        simp (maxSteps := 10000000) only [↓sx, sx, ↓ty, ↓reduceIte, Nat.reduceEqDiff, Nat.reduceBeqDiff, Nat.reduceAdd, Nat.reduceLeDiff, Nat.reduceLT, Nat.reduceMul, Nat.reduceSub, Int.reduceEq, Int.reduceBNe, Int.reduceBEq, ne_eq, not_false_eq_true, pc, ls, bs, and_true, true_and, and_self, Nat.reduceAdd, Nat.le_refl, leafP, pi, la]
        refine CallT.mk (t := ⟨⟩) M ?_
        simp (maxSteps := 10000000) only [↓sx, sx, ↓ty, ↓reduceIte, Nat.reduceEqDiff, Nat.reduceBeqDiff, Nat.reduceAdd, Nat.reduceLeDiff, Nat.reduceLT, Nat.reduceMul, Nat.reduceSub, Int.reduceEq, Int.reduceBNe, Int.reduceBEq, ne_eq, not_false_eq_true, pc, ls, bs, and_true, true_and, and_self, Nat.reduceAdd, Nat.le_refl, leafP, pi, la, ag, beq_self_eq_true, cv]
        refine CallT.mk (t := ⟨⟩) N1 ?_
        simp (maxSteps := 10000000) only [↓sx, sx, ↓ty, ↓reduceIte, Nat.reduceEqDiff, Nat.reduceBeqDiff, Nat.reduceAdd, Nat.reduceLeDiff, Nat.reduceLT, Nat.reduceMul, Nat.reduceSub, Int.reduceEq, Int.reduceBNe, Int.reduceBEq, ne_eq, not_false_eq_true, pc, ls, bs, and_true, true_and, and_self, Nat.reduceAdd, Nat.le_refl, leafP, pi, la, ag, beq_self_eq_true, cv]
        refine CallT.mk (t := ⟨⟩) N2 ?_
        simp (maxSteps := 10000000) only [↓sx, sx, ↓ty, ↓reduceIte, Nat.reduceEqDiff, Nat.reduceBeqDiff, Nat.reduceAdd, Nat.reduceLeDiff, Nat.reduceLT, Nat.reduceMul, Nat.reduceSub, Int.reduceEq, Int.reduceBNe, Int.reduceBEq, ne_eq, not_false_eq_true, pc, ls, bs, and_true, true_and, and_self, Nat.reduceAdd, Nat.le_refl, leafP, pi, la, ag, beq_self_eq_true]
theorem rounds_law (xs : List PV) (h : FitA [.agg [.str, .str], .int .u16] xs) : Meets Tryz.prog Gd 6 xs (.val (.bool true)) := by
  obtain ⟨_, _, rfl, h1, h⟩ := fita_cons h
  obtain ⟨_, _, rfl, h2, h⟩ := fita_cons h
  obtain rfl := fita_nil h
  obtain ⟨a, b, rfl⟩ := fit_iv h1
  obtain ⟨n, rfl, hn⟩ := fit_int h2
  have := bounds_u16 hn
  exact rounds_n a b n this.1 this.2
end Go.Proofs.YtkfmneenhochhaaGreatDoor.S
namespace Gb
open Go Go.RowKit Go.Sx
def sqQ (x y : Rat) : Rat × Rat := if ¬ 0 < x ∧ ¬ y < 0 then endsQ (0, 0) [x * x, y * y] else endsQ (x * x, x * x) [y * y]
theorem isq_q {x y : Rat} (h : x ≤ y) : isqP (rT x) (rT y) = .tup [ivQ (sqQ x y), iP 0] := by
  unfold isqP sqQ
  rw [isIv_rT h, if_pos rfl, zero_rT h]
  simp only [ratOf_rT]
  by_cases c : ¬ 0 < x ∧ ¬ y < 0
  · rw [if_pos c, if_pos (by simp only [Bool.and_eq_true, Bool.not_eq_true', decide_eq_false_iff_not]; exact c)]
  · rw [if_neg c, if_neg (by simp only [Bool.and_eq_true, Bool.not_eq_true', decide_eq_false_iff_not]; exact c)]
theorem sq_between {x y : Rat} : x * y ≤ x * x ∨ x * y ≤ y * y := by
  have := sq_nonneg (x - y)
  have e : (x - y) * (x - y) = x * x - x * y - x * y + y * y := by grind
  grind
theorem sq_in {x y : Rat} (h : x ≤ y) : wi (corQ (· * ·) x y x y) (sqQ x y) ∧ (sqQ x y).2 = (corQ (· * ·) x y x y).2 := by
  unfold corQ
  rw [ends4]
  dsimp only
  have e : y * x = x * y := by grind
  have h1 := sq_nonneg x
  have h2 := sq_nonneg y
  have h3 := sq_between (x := x) (y := y)
  unfold sqQ
  rw [e]
  by_cases c : ¬ 0 < x ∧ ¬ y < 0
  · have h4 : x * y ≤ 0 := by have := mul_anti (a := 0) (b := y) (x := x) (by grind) (by grind); grind
    rw [if_pos c]
    generalize x * x = a at *
    generalize y * y = b at *
    generalize x * y = d at *
    simp only [wi, endsQ, List.foldl, leastQ, mostQ]
    grind
  · have h4 : (x * x ≤ x * y ∨ y * y ≤ x * y) := by
      by_cases hx : 0 < x
      · left; have := mul_mono h (show 0 ≤ x by grind); grind
      · right; have := mul_anti h (show y ≤ 0 by grind); grind
    rw [if_neg c]
    generalize x * x = a at *
    generalize y * y = b at *
    generalize x * y = d at *
    simp only [wi, endsQ, List.foldl, leastQ, mostQ]
    grind
theorem cor_mem (f : Rat → Rat → Rat) (a1 a2 b1 b2 : Rat) : (corQ f a1 a2 b1 b2).1 ∈ [f a1 b1, f a1 b2, f a2 b1, f a2 b2] ∧ (corQ f a1 a2 b1 b2).2 ∈ [f a1 b1, f a1 b2, f a2 b1, f a2 b2] := by
  unfold corQ
  generalize f a1 b1 = a
  generalize f a1 b2 = b
  generalize f a2 b1 = c
  generalize f a2 b2 = d
  rw [ends4]
  simp only [leastQ, mostQ, List.mem_cons, List.not_mem_nil, or_false]
  grind
theorem rT_inj {x y : Rat} (h : rT x = rT y) : x = y := by have := congrArg ratOf h; rwa [ratOf_rT, ratOf_rT] at this
theorem any_rT {l : List Rat} {x : Rat} (h : x ∈ l) : (l.map rT).any (fun e => rT x == e) = true := by
  rw [List.any_eq_true]
  exact ⟨rT x, List.mem_map.2 ⟨x, h, rfl⟩, by simp⟩
theorem texts_rT (l : List Rat) : texts (l.map rT) = l.map rtP := by unfold texts; rw [List.map_map]; rfl
end Gb
namespace Go.Proofs.YtkfmneenhochhaaGreatDoor.S
open Go Go.Sx Go.RowKit Gb Go.Shelf
set_option maxRecDepth 100000 in
set_option maxHeartbeats 4000000 in
theorem idxE_n (v : List UInt8) (l : List (List UInt8)) (hl : l.length ≤ 9223372036854775807) :
    Meets Tryz.prog Gd 78 [.sl l.length (texts l), strP v] (iP (idx (fun e => v == e) l)) := by
  refine meets_of_vc (Y := {}) (N := 19) (rs := [.tmp 4]) mix tk gd Tryz.func78 rfl (by kernel_rfl) rfl rfl (by simp) (by kernel_rfl) ?_
  simp (maxSteps := 10000000) only [↓sx, sx, ↓ty, ↓reduceIte, Nat.reduceEqDiff, Nat.reduceBeqDiff, Nat.reduceAdd, Nat.reduceLeDiff, Nat.reduceLT, Nat.reduceMul, Nat.reduceSub, Int.reduceEq, Int.reduceBNe, Int.reduceBEq, ne_eq, not_false_eq_true, pc, ls, bs, and_true, true_and, and_self, Nat.reduceAdd, Nat.le_refl, leafP]
  refine loopK_of (fun i : Nat => [(0, .p (.sl l.length (texts l))), (1, .p (strP v)), (7, .p (.val (.int .i64 (l.length : Nat)))), (8, .p (.val (.int .i64 (i : Nat))))]) (fun _ => []) (fun _ => []) (fun i => i ≤ l.length ∧ ∀ y ∈ l.take i, (v == y) = false) (fun i => l.length - i) 0 ⟨Nat.zero_le _, by simp⟩ ?_ ?_
  · simp (maxSteps := 10000000) only [isE_nil, is_cons, bo_p, bo_box, bo_orow, bo_rowp, any_cons', all_cons', all_nil', Bool.true_or, Bool.or_true, ↓sx, sx, ↓reduceIte, Nat.reduceEqDiff, Nat.reduceBeqDiff]
    try trivial
  · rintro i ⟨hi, hv⟩
    by_cases hil : i < l.length
    · have e1 : decide ((i : Int) < (l.length : Int)) = true := by simp; omega
      obtain ⟨a, ha⟩ : ∃ a, l[i]? = some a := ⟨l[i], List.getElem?_eq_getElem hil⟩
      have hd : (texts l)[i]? = some (strP a) := by unfold texts; rw [List.getElem?_map, ha]; rfl
      have hn : (texts l).length = l.length := by unfold texts; simp
      simp (maxSteps := 10000000) only [↓sx, sx, ↓ty, ↓reduceIte, Nat.reduceEqDiff, Nat.reduceBeqDiff, Nat.reduceAdd, Nat.reduceLeDiff, Nat.reduceLT, Nat.reduceMul, Nat.reduceSub, Int.reduceEq, Int.reduceBNe, Int.reduceBEq, ne_eq, not_false_eq_true, pc, ls, bs, and_true, true_and, and_self, Nat.reduceAdd, Nat.le_refl, leafP, e1, hd, hn]
      refine ⟨⟨by omega, hil⟩, ?_⟩
      cases hfa : (v == a) with
      | true =>
        simp (maxSteps := 10000000) only [↓sx, sx, ↓ty, ↓reduceIte, Nat.reduceEqDiff, Nat.reduceBeqDiff, Nat.reduceAdd, Nat.reduceLeDiff, Nat.reduceLT, Nat.reduceMul, Nat.reduceSub, Int.reduceEq, Int.reduceBNe, Int.reduceBEq, ne_eq, not_false_eq_true, pc, ls, bs, and_true, true_and, and_self, Nat.reduceAdd, Nat.le_refl, leafP, pc, ba_beq, hfa]
        rw [idx_at (fun e => v == e) l i a ha hv hfa]
      | false =>
        simp (maxSteps := 10000000) only [↓sx, sx, ↓ty, ↓reduceIte, Nat.reduceEqDiff, Nat.reduceBeqDiff, Nat.reduceAdd, Nat.reduceLeDiff, Nat.reduceLT, Nat.reduceMul, Nat.reduceSub, Int.reduceEq, Int.reduceBNe, Int.reduceBEq, ne_eq, not_false_eq_true, pc, ls, bs, and_true, true_and, and_self, Nat.reduceAdd, Nat.le_refl, leafP, pc, ba_beq, hfa]
        refine NextK.mk (i + 1) (by omega) ⟨by omega, ?_⟩ ?_
        · intro y hy
          rw [take_snocA ha] at hy
          rcases List.mem_append.1 hy with hy | hy
          · exact hv y hy
          · rw [List.mem_singleton] at hy; rw [hy]; exact hfa
        · simp (maxSteps := 10000000) only [isE_nil, is_cons, bo_p, bo_box, bo_orow, bo_rowp, any_cons', all_cons', all_nil', Bool.true_or, Bool.or_true, ↓sx, sx, ↓reduceIte, Nat.reduceEqDiff, Nat.reduceBeqDiff]
          rw [i64_id (by omega) (by omega)]
          exact ⟨rfl, rfl⟩
    · obtain rfl : i = l.length := by omega
      rw [List.take_length] at hv
      have e1 : decide ((l.length : Int) < (l.length : Int)) = false := by simp
      simp (maxSteps := 10000000) only [↓sx, sx, ↓ty, ↓reduceIte, Nat.reduceEqDiff, Nat.reduceBeqDiff, Nat.reduceAdd, Nat.reduceLeDiff, Nat.reduceLT, Nat.reduceMul, Nat.reduceSub, Int.reduceEq, Int.reduceBNe, Int.reduceBEq, ne_eq, not_false_eq_true, pc, ls, bs, and_true, true_and, and_self, Nat.reduceAdd, Nat.le_refl, leafP, e1]
      rw [idx_none _ l hv]
set_option maxRecDepth 100000 in
theorem hasE_n (v : List UInt8) (l : List (List UInt8)) (hl : l.length ≤ 9223372036854775807) :
    Meets Tryz.prog Gd 42 [.sl l.length (texts l), strP v] (.val (.bool (l.any fun e => v == e))) := by
  refine meets_of_vc (Y := {}) (N := 9) (rs := [.tmp 4]) mix tk gd Tryz.func42 rfl (by kernel_rfl) rfl rfl (by simp) (by kernel_rfl) ?_
  simp (maxSteps := 10000000) only [↓sx, sx, ↓ty, ↓reduceIte, Nat.reduceEqDiff, Nat.reduceBeqDiff, Nat.reduceAdd, Nat.reduceLeDiff, Nat.reduceLT, Nat.reduceMul, Nat.reduceSub, Int.reduceEq, Int.reduceBNe, Int.reduceBEq, ne_eq, not_false_eq_true, pc, ls, bs, and_true, true_and, and_self, Nat.reduceAdd, Nat.le_refl, leafP]
  refine CallT.mk (idxE_n v l hl) ?_
  simp (maxSteps := 10000000) only [↓sx, sx, ↓ty, ↓reduceIte, Nat.reduceEqDiff, Nat.reduceBeqDiff, Nat.reduceAdd, Nat.reduceLeDiff, Nat.reduceLT, Nat.reduceMul, Nat.reduceSub, Int.reduceEq, Int.reduceBNe, Int.reduceBEq, ne_eq, not_false_eq_true, pc, ls, bs, and_true, true_and, and_self, Nat.reduceAdd, Nat.le_refl, leafP, idx_any]
def prods (a1 a2 b1 b2 : Rat) (n : Nat) : List Rat := [a1 * b1, a1 * b2, a2 * b1, a2 * b2].take n
def two (x y : Rat) (i : Nat) : Rat := if i = 0 then x else y
def C2 (x y : Rat) : List PV := [strP (rT x), strP (rT y)]
theorem two_at (x y : Rat) (i : Nat) (h : i < 2) : (C2 x y)[i]? = some (strP (rT (two x y i))) := by
  match i, h with
  | 0, _ => rfl
  | 1, _ => rfl
theorem C2_len (x y : Rat) : (C2 x y).length = 2 := rfl
theorem two_sz {k : Nat} {x y : Rat} (hx : Sz k x) (hy : Sz k y) (i : Nat) : Sz k (two x y i) := by unfold two; split <;> assumption
theorem prods_snoc (a1 a2 b1 b2 : Rat) (i j : Nat) (hi : i < 2) (hj : j < 2) : prods a1 a2 b1 b2 (2 * i + j + 1) = prods a1 a2 b1 b2 (2 * i + j) ++ [two a1 a2 i * two b1 b2 j] := by
  match i, j, hi, hj with
  | 0, 0, _, _ => rfl
  | 0, 1, _, _ => rfl
  | 1, 0, _, _ => rfl
  | 1, 1, _, _ => rfl
theorem prods_len (a1 a2 b1 b2 : Rat) (n : Nat) (h : n ≤ 4) : (prods a1 a2 b1 b2 n).length = n := by unfold prods; rw [List.length_take]; simp; omega
set_option maxRecDepth 100000 in
set_option maxHeartbeats 16000000 in
theorem ends_n4 (a b c d : List UInt8) : Meets Tryz.prog Gd 8 [ivP a b, ivP c d] (.val (.bool true)) := by
  refine meets_of_vc (Y := { fz := [23] }) (N := 170) (rs := [.tmp 4]) mix tk gd Tryz.func8 rfl (by kernel_rfl) rfl rfl (by simp) (by kernel_rfl) ?_
  simp (maxSteps := 10000000) only [↓sx, sx, ↓ty, ↓reduceIte, Nat.reduceEqDiff, Nat.reduceBeqDiff, Nat.reduceAdd, Nat.reduceLeDiff, Nat.reduceLT, Nat.reduceMul, Nat.reduceSub, Int.reduceEq, Int.reduceBNe, Int.reduceBEq, ne_eq, not_false_eq_true, pc, ls, bs, and_true, true_and, and_self, Nat.reduceAdd, Nat.le_refl, leafP, pi, la]
  refine CallT.mk (t := ⟨⟩) awake_n ?_
  simp (maxSteps := 10000000) only [↓sx, sx, ↓ty, ↓reduceIte, Nat.reduceEqDiff, Nat.reduceBeqDiff, Nat.reduceAdd, Nat.reduceLeDiff, Nat.reduceLT, Nat.reduceMul, Nat.reduceSub, Int.reduceEq, Int.reduceBNe, Int.reduceBEq, ne_eq, not_false_eq_true, pc, ls, bs, and_true, true_and, and_self, Nat.reduceAdd, Nat.le_refl, leafP, pi, la]
  refine CallT.mk (t := ⟨⟩) (wide_2 a b c d) ?_
  cases hw : (wideB (a, b) || wideB (c, d)) with
  | true =>
    simp (maxSteps := 10000000) only [↓sx, sx, ↓ty, ↓reduceIte, Nat.reduceEqDiff, Nat.reduceBeqDiff, Nat.reduceAdd, Nat.reduceLeDiff, Nat.reduceLT, Nat.reduceMul, Nat.reduceSub, Int.reduceEq, Int.reduceBNe, Int.reduceBEq, ne_eq, not_false_eq_true, pc, ls, bs, and_true, true_and, and_self, Nat.reduceAdd, Nat.le_refl, leafP, pi, la]
    refine CallT.mk (t := ⟨⟩) awake_n ?_
    simp (maxSteps := 10000000) only [↓sx, sx, ↓ty, ↓reduceIte, Nat.reduceEqDiff, Nat.reduceBeqDiff, Nat.reduceAdd, Nat.reduceLeDiff, Nat.reduceLT, Nat.reduceMul, Nat.reduceSub, Int.reduceEq, Int.reduceBNe, Int.reduceBEq, ne_eq, not_false_eq_true, pc, ls, bs, and_true, true_and, and_self, Nat.reduceAdd, Nat.le_refl, leafP, pi, la]
  | false =>
    obtain ⟨h1, h2, h3, h4⟩ := wide2_no hw
    simp (maxSteps := 10000000) only [↓sx, sx, ↓ty, ↓reduceIte, Nat.reduceEqDiff, Nat.reduceBeqDiff, Nat.reduceAdd, Nat.reduceLeDiff, Nat.reduceLT, Nat.reduceMul, Nat.reduceSub, Int.reduceEq, Int.reduceBNe, Int.reduceBEq, ne_eq, not_false_eq_true, pc, ls, bs, and_true, true_and, and_self, Nat.reduceAdd, Nat.le_refl, leafP, pi, la]
    refine CallT.mk (t := ⟨⟩) (ivalid2_n a b (by omega) (by omega)) ?_
    cases hv : isIv a b with
    | false =>
      simp (maxSteps := 10000000) only [↓sx, sx, ↓ty, ↓reduceIte, Nat.reduceEqDiff, Nat.reduceBeqDiff, Nat.reduceAdd, Nat.reduceLeDiff, Nat.reduceLT, Nat.reduceMul, Nat.reduceSub, Int.reduceEq, Int.reduceBNe, Int.reduceBEq, ne_eq, not_false_eq_true, pc, ls, bs, and_true, true_and, and_self, Nat.reduceAdd, Nat.le_refl, leafP, pi, la]
      refine CallT.mk (t := ⟨⟩) awake_n ?_
      simp (maxSteps := 10000000) only [↓sx, sx, ↓ty, ↓reduceIte, Nat.reduceEqDiff, Nat.reduceBeqDiff, Nat.reduceAdd, Nat.reduceLeDiff, Nat.reduceLT, Nat.reduceMul, Nat.reduceSub, Int.reduceEq, Int.reduceBNe, Int.reduceBEq, ne_eq, not_false_eq_true, pc, ls, bs, and_true, true_and, and_self, Nat.reduceAdd, Nat.le_refl, leafP, pi, la]
    | true =>
      simp (maxSteps := 10000000) only [↓sx, sx, ↓ty, ↓reduceIte, Nat.reduceEqDiff, Nat.reduceBeqDiff, Nat.reduceAdd, Nat.reduceLeDiff, Nat.reduceLT, Nat.reduceMul, Nat.reduceSub, Int.reduceEq, Int.reduceBNe, Int.reduceBEq, ne_eq, not_false_eq_true, pc, ls, bs, and_true, true_and, and_self, Nat.reduceAdd, Nat.le_refl, leafP, pi, la]
      refine CallT.mk (t := ⟨⟩) (ivalid2_n c d (by omega) (by omega)) ?_
      cases hv2 : isIv c d with
      | false =>
        simp (maxSteps := 10000000) only [↓sx, sx, ↓ty, ↓reduceIte, Nat.reduceEqDiff, Nat.reduceBeqDiff, Nat.reduceAdd, Nat.reduceLeDiff, Nat.reduceLT, Nat.reduceMul, Nat.reduceSub, Int.reduceEq, Int.reduceBNe, Int.reduceBEq, ne_eq, not_false_eq_true, pc, ls, bs, and_true, true_and, and_self, Nat.reduceAdd, Nat.le_refl, leafP, pi, la]
        refine CallT.mk (t := ⟨⟩) awake_n ?_
        simp (maxSteps := 10000000) only [↓sx, sx, ↓ty, ↓reduceIte, Nat.reduceEqDiff, Nat.reduceBeqDiff, Nat.reduceAdd, Nat.reduceLeDiff, Nat.reduceLT, Nat.reduceMul, Nat.reduceSub, Int.reduceEq, Int.reduceBNe, Int.reduceBEq, ne_eq, not_false_eq_true, pc, ls, bs, and_true, true_and, and_self, Nat.reduceAdd, Nat.le_refl, leafP, pi, la]
      | true =>
        obtain ⟨a1, a2, rfl, rfl, ha, s1, s2⟩ := iv_of hv
        obtain ⟨b1, b2, rfl, rfl, hb, s3, s4⟩ := iv_of hv2
        have s1 := s1.mono (m := 6) (by omega)
        have s2 := s2.mono (m := 6) (by omega)
        have s3 := s3.mono (m := 6) (by omega)
        have s4 := s4.mono (m := 6) (by omega)
        have A := iadd2_n (rT a1) (rT a2) (rT b1) (rT b2) (by omega) (by omega) (by omega) (by omega)
        have M := imul2_n (rT a1) (rT a2) (rT b1) (rT b2) (by omega) (by omega) (by omega) (by omega)
        rw [icor_q _ ha hb] at A M
        rw [corQ_add ha hb] at A
        simp (maxSteps := 10000000) only [↓sx, sx, ↓ty, ↓reduceIte, Nat.reduceEqDiff, Nat.reduceBeqDiff, Nat.reduceAdd, Nat.reduceLeDiff, Nat.reduceLT, Nat.reduceMul, Nat.reduceSub, Int.reduceEq, Int.reduceBNe, Int.reduceBEq, ne_eq, not_false_eq_true, pc, ls, bs, and_true, true_and, and_self, Nat.reduceAdd, Nat.le_refl, leafP, pi, la]
        refine CallT.mk (t := ⟨⟩) A ?_
        simp (maxSteps := 10000000) only [↓sx, sx, ↓ty, ↓reduceIte, Nat.reduceEqDiff, Nat.reduceBeqDiff, Nat.reduceAdd, Nat.reduceLeDiff, Nat.reduceLT, Nat.reduceMul, Nat.reduceSub, Int.reduceEq, Int.reduceBNe, Int.reduceBEq, ne_eq, not_false_eq_true, pc, ls, bs, and_true, true_and, and_self, Nat.reduceAdd, Nat.le_refl, leafP, pi, la]
        refine CallT.mk (t := ⟨⟩) M ?_
        simp (maxSteps := 10000000) only [↓sx, sx, ↓ty, ↓reduceIte, Nat.reduceEqDiff, Nat.reduceBeqDiff, Nat.reduceAdd, Nat.reduceLeDiff, Nat.reduceLT, Nat.reduceMul, Nat.reduceSub, Int.reduceEq, Int.reduceBNe, Int.reduceBEq, ne_eq, not_false_eq_true, pc, ls, bs, and_true, true_and, and_self, Nat.reduceAdd, Nat.le_refl, leafP, pi, la]
        refine CallT.mk (t := ⟨⟩) (rop_q radd_n a1 b1 (s1.mono (by omega)) (s3.mono (by omega))) ?_
        simp (maxSteps := 10000000) only [↓sx, sx, ↓ty, ↓reduceIte, Nat.reduceEqDiff, Nat.reduceBeqDiff, Nat.reduceAdd, Nat.reduceLeDiff, Nat.reduceLT, Nat.reduceMul, Nat.reduceSub, Int.reduceEq, Int.reduceBNe, Int.reduceBEq, ne_eq, not_false_eq_true, pc, ls, bs, and_true, true_and, and_self, Nat.reduceAdd, Nat.le_refl, leafP, pi, la]
        refine CallT.mk (t := ⟨⟩) (rop_q radd_n a2 b2 (s2.mono (by omega)) (s4.mono (by omega))) ?_
        simp (maxSteps := 10000000) only [↓sx, sx, ↓ty, ↓reduceIte, Nat.reduceEqDiff, Nat.reduceBeqDiff, Nat.reduceAdd, Nat.reduceLeDiff, Nat.reduceLT, Nat.reduceMul, Nat.reduceSub, Int.reduceEq, Int.reduceBNe, Int.reduceBEq, ne_eq, not_false_eq_true, pc, ls, bs, and_true, true_and, and_self, Nat.reduceAdd, Nat.le_refl, leafP, pi, la]
        refine loopK_of (fun i : Nat => [(2, .box 2 0), (3, .box 3 0), (5, .box 5 0), (6, .p (.val (.int .i64 0))), (7, .box 7 0), (8, .p (.val (.int .i64 0))), (9, .p (rtP (a1 + b1))), (10, .p (.val (.int .i64 0))), (11, .p (rtP (a2 + b2))), (12, .p (.val (.int .i64 0))), (13, .orow 13),
            (77, .p (.sl 2 (C2 a1 a2))), (78, .p (.val (.int .i64 ((2 : Nat) : Int)))), (79, .p (.val (.int .i64 (i : Nat))))])
          (fun i => [(2, (24, [strP (rT a1), strP (rT a2)])), (3, (24, [strP (rT b1), strP (rT b2)])), (5, (24, [rtP (a1 + b1), rtP (a2 + b2)])), (7, (24, [rtP (corQ (· * ·) a1 a2 b1 b2).1, rtP (corQ (· * ·) a1 a2 b1 b2).2]))])
          (fun i => [(13, ⟨22, 1, 2 * i, (prods a1 a2 b1 b2 (2 * i)).map rtP, false⟩)]) (fun i => i ≤ 2) (fun i => 2 - i) 0 (Nat.zero_le _) ?_ ?_
        · simp (maxSteps := 10000000) only [isE_nil, is_cons, bo_p, bo_box, bo_orow, bo_rowp, any_cons', all_cons', all_nil', Bool.true_or, Bool.or_true, ↓sx, sx, ↓reduceIte, Nat.reduceEqDiff, Nat.reduceBeqDiff, pc, strP_c]
          exact ⟨rfl, rfl, rfl⟩
        · rintro i hi
          by_cases hil : i < 2
          · have e1 : decide ((i : Int) < ((2 : Nat) : Int)) = true := by simp; omega
            have hd := two_at a1 a2 i hil
            have hn := C2_len a1 a2
            simp (maxSteps := 10000000) only [↓sx, sx, ↓ty, ↓reduceIte, Nat.reduceEqDiff, Nat.reduceBeqDiff, Nat.reduceAdd, Nat.reduceLeDiff, Nat.reduceLT, Nat.reduceMul, Nat.reduceSub, Int.reduceEq, Int.reduceBNe, Int.reduceBEq, ne_eq, not_false_eq_true, pc, ls, bs, and_true, true_and, and_self, Nat.reduceAdd, Nat.le_refl, leafP, e1, hd, hn, strP_c]
            refine ⟨⟨by omega, hil⟩, ?_⟩
            refine loopK_of (fun j : Nat => [(2, .box 2 0), (3, .box 3 0), (5, .box 5 0), (6, .p (.val (.int .i64 0))), (7, .box 7 0), (8, .p (.val (.int .i64 0))), (9, .p (rtP (a1 + b1))), (10, .p (.val (.int .i64 0))), (11, .p (rtP (a2 + b2))), (12, .p (.val (.int .i64 0))), (13, .orow 13),
                (15, .p (rtP (two a1 a2 i))), (77, .p (.sl 2 (C2 a1 a2))), (78, .p (.val (.int .i64 ((2 : Nat) : Int)))), (79, .p (.val (.int .i64 (i : Nat)))), (87, .p (.sl 2 (C2 b1 b2))), (88, .p (.val (.int .i64 ((2 : Nat) : Int)))), (89, .p (.val (.int .i64 (j : Nat))))])
              (fun _ => [(2, (24, [strP (rT a1), strP (rT a2)])), (3, (24, [strP (rT b1), strP (rT b2)])), (5, (24, [rtP (a1 + b1), rtP (a2 + b2)])), (7, (24, [rtP (corQ (· * ·) a1 a2 b1 b2).1, rtP (corQ (· * ·) a1 a2 b1 b2).2]))])
              (fun j => [(13, ⟨22, 1, 2 * i + j, (prods a1 a2 b1 b2 (2 * i + j)).map rtP, false⟩)]) (fun j => j ≤ 2) (fun j => 2 - j) 0 (Nat.zero_le _) ?_ ?_
            · simp (maxSteps := 10000000) only [isE_nil, is_cons, bo_p, bo_box, bo_orow, bo_rowp, any_cons', all_cons', all_nil', Bool.true_or, Bool.or_true, ↓sx, sx, ↓reduceIte, Nat.reduceEqDiff, Nat.reduceBeqDiff, pc, strP_c]
              exact ⟨rfl, rfl, rfl⟩
            · rintro j hj
              by_cases hjl : j < 2
              · have f1 : decide ((j : Int) < ((2 : Nat) : Int)) = true := by simp; omega
                have gd2 := two_at b1 b2 j hjl
                have gn := C2_len b1 b2
                have zx := two_sz s1 s2 i
                have zy := two_sz s3 s4 j
                have hp := prods_snoc a1 a2 b1 b2 i j hil hjl
                simp (maxSteps := 10000000) only [↓sx, sx, ↓ty, ↓reduceIte, Nat.reduceEqDiff, Nat.reduceBeqDiff, Nat.reduceAdd, Nat.reduceLeDiff, Nat.reduceLT, Nat.reduceMul, Nat.reduceSub, Int.reduceEq, Int.reduceBNe, Int.reduceBEq, ne_eq, not_false_eq_true, pc, ls, bs, and_true, true_and, and_self, Nat.reduceAdd, Nat.le_refl, leafP, f1, gd2, gn, strP_c]
                refine ⟨⟨by omega, hjl⟩, ?_⟩
                refine CallT.mk (t := ⟨⟩) (rop_q rmul_n (two a1 a2 i) (two b1 b2 j) (zx.mono (by omega)) (zy.mono (by omega))) ?_
                simp (maxSteps := 10000000) only [↓sx, sx, ↓ty, ↓reduceIte, Nat.reduceEqDiff, Nat.reduceBeqDiff, Nat.reduceAdd, Nat.reduceLeDiff, Nat.reduceLT, Nat.reduceMul, Nat.reduceSub, Int.reduceEq, Int.reduceBNe, Int.reduceBEq, ne_eq, not_false_eq_true, pc, ls, bs, and_true, true_and, and_self, Nat.reduceAdd, Nat.le_refl, leafP, strP_c]
                refine ⟨⟨by unfold maxLen; omega, by omega⟩, NextK.mk (j + 1) (by omega) (by omega) ?_⟩
                simp (maxSteps := 10000000) only [isE_nil, is_cons, bo_p, bo_box, bo_orow, bo_rowp, any_cons', all_cons', all_nil', Bool.true_or, Bool.or_true, ↓sx, sx, ↓reduceIte, Nat.reduceEqDiff, Nat.reduceBeqDiff, pc, strP_c]
                rw [i64_id (by omega) (by omega), ← Nat.add_assoc, hp, List.map_append]
                exact ⟨rfl, rfl⟩
              · obtain rfl : j = 2 := by omega
                have f1 : decide (((2 : Nat) : Int) < ((2 : Nat) : Int)) = false := by simp
                simp (maxSteps := 10000000) only [↓sx, sx, ↓ty, ↓reduceIte, Nat.reduceEqDiff, Nat.reduceBeqDiff, Nat.reduceAdd, Nat.reduceLeDiff, Nat.reduceLT, Nat.reduceMul, Nat.reduceSub, Int.reduceEq, Int.reduceBNe, Int.reduceBEq, ne_eq, not_false_eq_true, pc, ls, bs, and_true, true_and, and_self, Nat.reduceAdd, Nat.le_refl, leafP, f1]
                refine NextK.mk (i + 1) (by omega) (by omega) ?_
                simp (maxSteps := 10000000) only [isE_nil, is_cons, bo_p, bo_box, bo_orow, bo_rowp, any_cons', all_cons', all_nil', Bool.true_or, Bool.or_true, ↓sx, sx, ↓reduceIte, Nat.reduceEqDiff, Nat.reduceBeqDiff, pc, strP_c]
                rw [i64_id (by omega) (by omega)]
                exact ⟨rfl, rfl⟩
          · obtain rfl : i = 2 := by omega
            have e1 : decide (((2 : Nat) : Int) < ((2 : Nat) : Int)) = false := by simp
            simp (maxSteps := 10000000) only [↓sx, sx, ↓ty, ↓reduceIte, Nat.reduceEqDiff, Nat.reduceBeqDiff, Nat.reduceAdd, Nat.reduceLeDiff, Nat.reduceLT, Nat.reduceMul, Nat.reduceSub, Int.reduceEq, Int.reduceBNe, Int.reduceBEq, ne_eq, not_false_eq_true, pc, ls, bs, and_true, true_and, and_self, Nat.reduceAdd, Nat.le_refl, leafP, e1]
            have Q := isq_n (rT a1) (rT a2) (by omega) (by omega)
            rw [isq_q ha] at Q
            have R := imul2_n (rT a1) (rT a2) (rT a1) (rT a2) (by omega) (by omega) (by omega) (by omega)
            rw [icor_q _ ha ha] at R
            obtain ⟨w1, w2⟩ := sq_in ha
            have zq := corQ_sz (f := (· * ·)) (a1 := a1) (a2 := a2) (b1 := a1) (b2 := a2) (k := 30) fun x y hx hy => (Sz.mul (k := 6) (by rcases hx with rfl | rfl <;> assumption) (by rcases hy with rfl | rfl <;> assumption)).mono (by omega)
            have zs : SzI 30 (sqQ a1 a2) := by
              have e1 := (s1.mul s1).mono (m := 30) (by omega)
              have e2 := (s2.mul s2).mono (m := 30) (by omega)
              unfold sqQ
              split
              · exact endsQ_sz _ _ (Sz0 _ (by omega)) (Sz0 _ (by omega)) (by simp [e1, e2])
              · exact endsQ_sz _ _ e1 e1 (by simp [e2])
            have E := imeet_n (rT (sqQ a1 a2).1) (rT (sqQ a1 a2).2) (rT (corQ (· * ·) a1 a2 a1 a2).1) (rT (corQ (· * ·) a1 a2 a1 a2).2) (by have := rT_len zs.1; omega) (by have := rT_len zs.2; omega) (by have := rT_len zq.1; omega) (by have := rT_len zq.2; omega)
            rw [meet_wi' w1] at E
            have hm := cor_mem (· * ·) a1 a2 b1 b2
            have hl : prods a1 a2 b1 b2 (2 * 2) = [a1 * b1, a1 * b2, a2 * b1, a2 * b2] := rfl
            generalize sqQ a1 a2 = u at *
            generalize corQ (· * ·) a1 a2 a1 a2 = v at *
            generalize corQ (· * ·) a1 a2 b1 b2 = x at *
            refine CallT.mk (t := ⟨⟩) Q ?_
            simp (maxSteps := 10000000) only [↓sx, sx, ↓ty, ↓reduceIte, Nat.reduceEqDiff, Nat.reduceBeqDiff, Nat.reduceAdd, Nat.reduceLeDiff, Nat.reduceLT, Nat.reduceMul, Nat.reduceSub, Int.reduceEq, Int.reduceBNe, Int.reduceBEq, ne_eq, not_false_eq_true, pc, ls, bs, and_true, true_and, and_self, Nat.reduceAdd, Nat.le_refl, leafP, pi, la]
            refine CallT.mk (t := ⟨⟩) R ?_
            simp (maxSteps := 10000000) only [↓sx, sx, ↓ty, ↓reduceIte, Nat.reduceEqDiff, Nat.reduceBeqDiff, Nat.reduceAdd, Nat.reduceLeDiff, Nat.reduceLT, Nat.reduceMul, Nat.reduceSub, Int.reduceEq, Int.reduceBNe, Int.reduceBEq, ne_eq, not_false_eq_true, pc, ls, bs, and_true, true_and, and_self, Nat.reduceAdd, Nat.le_refl, leafP, pi, la]
            refine CallT.mk (t := ⟨⟩) E ?_
            simp (maxSteps := 10000000) only [↓sx, sx, ↓ty, ↓reduceIte, Nat.reduceEqDiff, Nat.reduceBeqDiff, Nat.reduceAdd, Nat.reduceLeDiff, Nat.reduceLT, Nat.reduceMul, Nat.reduceSub, Int.reduceEq, Int.reduceBNe, Int.reduceBEq, ne_eq, not_false_eq_true, pc, ls, bs, and_true, true_and, and_self, Nat.reduceAdd, Nat.le_refl, leafP, pi, la, ag, beq_self_eq_true, w4, Int.reduceAdd]
            have K1 := hasE_n (rT x.1) ([a1 * b1, a1 * b2, a2 * b1, a2 * b2].map rT) (by simp)
            have K2 := hasE_n (rT x.2) ([a1 * b1, a1 * b2, a2 * b1, a2 * b2].map rT) (by simp)
            rw [any_rT hm.1] at K1
            rw [any_rT hm.2] at K2
            refine CallT.mk (t := ⟨⟩) (in_n (rT (a1 + b1)) (rT (a2 + b2))) ?_
            simp (maxSteps := 10000000) only [↓sx, sx, ↓ty, ↓reduceIte, Nat.reduceEqDiff, Nat.reduceBeqDiff, Nat.reduceAdd, Nat.reduceLeDiff, Nat.reduceLT, Nat.reduceMul, Nat.reduceSub, Int.reduceEq, Int.reduceBNe, Int.reduceBEq, ne_eq, not_false_eq_true, pc, ls, bs, and_true, true_and, and_self, Nat.reduceAdd, Nat.le_refl, leafP, pi, la, ag, beq_self_eq_true, w4, Int.reduceAdd]
            refine CallT.to (t := ⟨⟩) K1 (by rw [texts_rT]; rfl) ?_
            simp (maxSteps := 10000000) only [↓sx, sx, ↓ty, ↓reduceIte, Nat.reduceEqDiff, Nat.reduceBeqDiff, Nat.reduceAdd, Nat.reduceLeDiff, Nat.reduceLT, Nat.reduceMul, Nat.reduceSub, Int.reduceEq, Int.reduceBNe, Int.reduceBEq, ne_eq, not_false_eq_true, pc, ls, bs, and_true, true_and, and_self, Nat.reduceAdd, Nat.le_refl, leafP, pi, la, ag, beq_self_eq_true, w4, Int.reduceAdd]
            refine CallT.to (t := ⟨⟩) K2 (by rw [texts_rT]; rfl) ?_
            simp (maxSteps := 10000000) only [↓sx, sx, ↓ty, ↓reduceIte, Nat.reduceEqDiff, Nat.reduceBeqDiff, Nat.reduceAdd, Nat.reduceLeDiff, Nat.reduceLT, Nat.reduceMul, Nat.reduceSub, Int.reduceEq, Int.reduceBNe, Int.reduceBEq, ne_eq, not_false_eq_true, pc, ls, bs, and_true, true_and, and_self, Nat.reduceAdd, Nat.le_refl, leafP, pi, la, ag, beq_self_eq_true, w4, Int.reduceAdd]
            rw [w2, beq_self_eq_true]
theorem ends_law (xs : List PV) (h : FitA [.agg [.str, .str], .agg [.str, .str]] xs) : Meets Tryz.prog Gd 8 xs (.val (.bool true)) := by
  obtain ⟨_, _, rfl, h1, h⟩ := fita_cons h
  obtain ⟨_, _, rfl, h2, h⟩ := fita_cons h
  obtain rfl := fita_nil h
  obtain ⟨a, b, rfl⟩ := fit_iv h1
  obtain ⟨c, d, rfl⟩ := fit_iv h2
  exact ends_n4 a b c d
end Go.Proofs.YtkfmneenhochhaaGreatDoor.S
namespace Gb
open Go Go.RowKit Go.Sx
theorem mul_lin {a b x : Rat} (y : Rat) (h1 : a ≤ x) (h2 : x ≤ b) : (a * y ≤ x * y ∧ x * y ≤ b * y) ∨ (b * y ≤ x * y ∧ x * y ≤ a * y) := by
  by_cases hy : 0 ≤ y
  · exact .inl ⟨mul_mono h1 hy, mul_mono h2 hy⟩
  · exact .inr ⟨mul_anti h2 (by grind), mul_anti h1 (by grind)⟩
theorem times_in {p q : Rat × Rat} {x y : Rat} (h1 : p.1 ≤ x) (h2 : x ≤ p.2) (h3 : q.1 ≤ y) (h4 : y ≤ q.2) : (timesQ p q).1 ≤ x * y ∧ x * y ≤ (timesQ p q).2 := by
  obtain ⟨a, b⟩ := p
  obtain ⟨c, d⟩ := q
  dsimp only at h1 h2 h3 h4
  have m1 := mul_lin y h1 h2
  have m2 := mul_lin a h3 h4
  have m3 := mul_lin b h3 h4
  rw [show c * a = a * c by grind, show y * a = a * y by grind, show d * a = a * d by grind] at m2
  rw [show c * b = b * c by grind, show y * b = b * y by grind, show d * b = b * d by grind] at m3
  simp only [timesQ, scaleQ, joinQ, leastQ, mostQ]
  generalize a * c = e1 at *
  generalize a * d = e2 at *
  generalize b * c = e3 at *
  generalize b * d = e4 at *
  generalize a * y = e5 at *
  generalize b * y = e6 at *
  generalize x * y = e7 at *
  grind
theorem inv_anti {a b : Rat} (h : a ≤ b) (hp : 0 < a * b) : b⁻¹ ≤ a⁻¹ := by
  have ha : a ≠ 0 := by rintro rfl; grind
  have hb : b ≠ 0 := by rintro rfl; grind
  refine Rat.le_of_mul_le_mul_right (c := a * b) ?_ hp
  have e1 := Rat.mul_inv_cancel a ha
  have e2 := Rat.mul_inv_cancel b hb
  have f1 : b⁻¹ * (a * b) = a := by
    have : b⁻¹ * (a * b) = a * (b * b⁻¹) := by grind
    rw [this, e2]; grind
  have f2 : a⁻¹ * (a * b) = b := by
    have : a⁻¹ * (a * b) = b * (a * a⁻¹) := by grind
    rw [this, e1]; grind
  rw [f1, f2]; exact h
theorem mul_pos2 {a b : Rat} (h : (0 < a ∧ 0 < b) ∨ (a < 0 ∧ b < 0)) : 0 < a * b := by
  rcases h with ⟨h1, h2⟩ | ⟨h1, h2⟩
  · exact Rat.mul_pos h1 h2
  · have := Rat.mul_pos (show 0 < -a by grind) (show 0 < -b by grind); grind
theorem div_in {a1 a2 b1 b2 x y : Rat} (h1 : a1 ≤ x) (h2 : x ≤ a2) (h3 : b1 ≤ y) (h4 : y ≤ b2) (h : 0 < b1 ∨ b2 < 0) : (corQ (· / ·) a1 a2 b1 b2).1 ≤ x / y ∧ x / y ≤ (corQ (· / ·) a1 a2 b1 b2).2 := by
  rw [corQ_div, Rat.div_def]
  unfold overQ
  refine times_in h1 h2 (inv_anti h4 (mul_pos2 ?_)) (inv_anti h3 (mul_pos2 ?_))
  · rcases h with h | h
    · left; constructor <;> grind
    · right; constructor <;> grind
  · rcases h with h | h
    · left; constructor <;> grind
    · right; constructor <;> grind
theorem sq_has {x y z : Rat} (h1 : x ≤ z) (h2 : z ≤ y) : (sqQ x y).1 ≤ z * z ∧ z * z ≤ (sqQ x y).2 := by
  have m1 := mul_lin z h1 h2
  have m2 := mul_lin x h1 h2
  have m3 := mul_lin y h1 h2
  have e1 : z * x = x * z := by grind
  have e2 : z * y = y * z := by grind
  have e3 : y * x = x * y := by grind
  have h0 := sq_nonneg z
  have hx := sq_nonneg x
  have hy := sq_nonneg y
  unfold sqQ
  by_cases c : ¬ 0 < x ∧ ¬ y < 0
  · rw [if_pos c]
    have n1 : x * y ≤ 0 := by have := mul_anti (a := 0) (b := y) (x := x) (by grind) (by grind); grind
    rw [e1, e3] at m2
    rw [e2] at m3
    generalize x * x = a at *
    generalize y * y = b at *
    generalize z * z = d at *
    generalize x * z = f at *
    generalize y * z = g at *
    generalize x * y = k at *
    simp only [endsQ, List.foldl]
    grind
  · rw [if_neg c]
    by_cases hp : 0 < x
    · have n1 := mul_mono h1 (show 0 ≤ x by grind)
      have n2 := mul_mono h1 (show 0 ≤ z by grind)
      have n3 := mul_mono h2 (show 0 ≤ z by grind)
      have n4 := mul_mono h2 (show 0 ≤ y by grind)
      simp only [endsQ, List.foldl]
      grind
    · have hn : y < 0 := by grind
      have n1 := mul_anti h1 (show x ≤ 0 by grind)
      have n2 := mul_anti h1 (show z ≤ 0 by grind)
      have n3 := mul_anti h2 (show z ≤ 0 by grind)
      have n4 := mul_anti h2 (show y ≤ 0 by grind)
      simp only [endsQ, List.foldl]
      grind
def ninth (k : Nat) : Rat := Rat.divInt (k : Int) 9
theorem ninth_in {k : Nat} (h : k < 10) : 0 ≤ ninth k ∧ ninth k ≤ 1 := by
  unfold ninth
  have : ∀ k : Fin 10, 0 ≤ Rat.divInt ((k : Nat) : Int) 9 ∧ Rat.divInt ((k : Nat) : Int) 9 ≤ 1 := by decide +kernel
  exact this ⟨k, h⟩
def way (x y : Rat) (k : Nat) : Rat := x + (y - x) * ninth k
theorem way_in {x y : Rat} {k : Nat} (h : x ≤ y) (hk : k < 10) : x ≤ way x y k ∧ way x y k ≤ y := by
  obtain ⟨h1, h2⟩ := ninth_in hk
  have m1 := mul_mono h1 (show 0 ≤ y - x by grind)
  have m2 := mul_mono h2 (show 0 ≤ y - x by grind)
  unfold way
  constructor <;> grind
theorem ninth_sz {k : Nat} (h : k < 10) : Sz 2 (ninth k) := by
  have hk : Sz 1 ((k : Int) : Rat) := Sz.int (Lw_le (by show k < 1000000000 ^ 1; omega)) (by omega)
  have h9 : Sz 1 ((9 : Int) : Rat) := Sz.int (Lw_le (by decide)) (by omega)
  have := hk.div h9 (by omega)
  unfold ninth
  rwa [Rat.divInt_eq_div]
theorem way_sz {x y : Rat} {k : Nat} (hx : Sz 6 x) (hy : Sz 6 y) (h : k < 10) : Sz 53 (way x y k) := by
  have d := hy.sub hx
  have w := d.mul ((ninth_sz h).mono (by omega))
  exact ((hx.mono (by omega)).add w).mono (by omega)
theorem digit_at (m : Nat) (h : m < 10) : UInt8.ofNat (([48, 49, 50, 51, 52, 53, 54, 55, 56, 57] : List UInt8)[m]?.getD 0).toNat = UInt8.ofNat (48 + m) := by
  have : ∀ k : Fin 10, UInt8.ofNat (([48, 49, 50, 51, 52, 53, 54, 55, 56, 57] : List UInt8)[(k : Nat)]?.getD 0).toNat = UInt8.ofNat (48 + (k : Nat)) := by decide +kernel
  exact this ⟨m, h⟩
theorem rmake_9 (m : Nat) (h : m < 10) : rmakeP [UInt8.ofNat (48 + m)] [57] = .tup [rtP (ninth m), iP 0] := by
  have e1 : iD (m : Int) = [UInt8.ofNat (48 + m)] := by rw [iD_pos, dig1 m h]
  have e2 : iD ((9 : Nat) : Int) = [57] := by rw [iD_pos, dig1 9 (by omega)]; rfl
  unfold rmakeP
  rw [← e1, ← e2, isInt_iD, isInt_iD, intOf_iD, intOf_iD]
  simp only [Bool.and_self, if_true]
  rw [if_neg (by decide)]
  rfl
end Gb
namespace Gb
open Go Go.RowKit Go.Sx
theorem has_q {x y z : Rat} (h1 : x ≤ z) (h2 : z ≤ y) : (isIv (rT x) (rT y) && isRat (rT z) && !decide (ratOf (rT z) < ratOf (rT x)) && !decide (ratOf (rT y) < ratOf (rT z))) = true := by
  rw [isIv_rT (show x ≤ y by grind), isRat_rT, ratOf_rT, ratOf_rT, ratOf_rT]
  simp only [Bool.and_self, Bool.true_and, Bool.and_eq_true, Bool.not_eq_true', decide_eq_false_iff_not]
  constructor <;> grind
end Gb
namespace Go.Proofs.YtkfmneenhochhaaGreatDoor.S
open Go Go.Sx Go.RowKit Gb Go.Shelf
theorem has_y {x y z : Rat} {k : Nat} (hk : k ≤ 1000) (sx : Sz k x) (sy : Sz k y) (sz : Sz k z) (h1 : x ≤ z) (h2 : z ≤ y) : Meets Tryz.prog Gd 19 [ivP (rT x) (rT y), strP (rT z)] (.val (.bool true)) := by
  have := has_n (rT x) (rT y) (rT z) (by have := rT_len sx; omega) (by have := rT_len sy; omega) (by have := rT_len sz; omega)
  rwa [has_q h1 h2] at this
set_option maxRecDepth 100000 in
set_option maxHeartbeats 8000000 in
theorem pick_n (x y : Rat) (k : Int) (hx : Sz 6 x) (hy : Sz 6 y) (h0 : 0 ≤ k) (h1 : k ≤ 255) : Meets Tryz.prog Gd 43 [ivP (rT x) (rT y), .val (.int .u8 k)] (rtP (way x y (k.toNat % 10))) := by
  refine meets_of_vc (Y := {}) (N := 44) (rs := [.tmp 4]) mix tk gd Tryz.func43 rfl (by kernel_rfl) rfl rfl (by simp) (by kernel_rfl) ?_
  obtain ⟨m, hm⟩ : ∃ m : Nat, m = k.toNat % 10 := ⟨_, rfl⟩
  have hm10 : m < 10 := by omega
  have e1 : k.tmod 10 = (m : Int) := by rw [tmod_pos h0]; omega
  have e2 := digit_at m hm10
  rw [← hm]
  have sd := hy.sub hx
  have sw := sd.mul ((ninth_sz hm10).mono (by omega))
  simp (maxSteps := 10000000) only [↓sx, sx, ↓ty, ↓reduceIte, Nat.reduceEqDiff, Nat.reduceBeqDiff, Nat.reduceAdd, Nat.reduceLeDiff, Nat.reduceLT, Nat.reduceMul, Nat.reduceSub, Int.reduceEq, Int.reduceBNe, Int.reduceBEq, ne_eq, not_false_eq_true, pc, ls, bs, and_true, true_and, and_self, Nat.reduceAdd, Nat.le_refl, leafP, pi, la, e1]
  refine CallT.mk (t := ⟨⟩) (rop_q rsub_n y x (hy.mono (by omega)) (hx.mono (by omega))) ?_
  simp (maxSteps := 10000000) only [↓sx, sx, ↓ty, ↓reduceIte, Nat.reduceEqDiff, Nat.reduceBeqDiff, Nat.reduceAdd, Nat.reduceLeDiff, Nat.reduceLT, Nat.reduceMul, Nat.reduceSub, Int.reduceEq, Int.reduceBNe, Int.reduceBEq, ne_eq, not_false_eq_true, pc, ls, bs, and_true, true_and, and_self, Nat.reduceAdd, Nat.le_refl, leafP, pi, la, e1, Int.toNat_natCast, e2]
  have mk := rmake_n [UInt8.ofNat (48 + m)] [57] (by simp) (by simp)
  rw [rmake_9 m hm10] at mk
  refine ⟨⟨by omega, by omega⟩, CallT.to (t := ⟨⟩) mk (by first | rfl | (rw [e2]; rfl)) ?_⟩
  simp (maxSteps := 10000000) only [↓sx, sx, ↓ty, ↓reduceIte, Nat.reduceEqDiff, Nat.reduceBeqDiff, Nat.reduceAdd, Nat.reduceLeDiff, Nat.reduceLT, Nat.reduceMul, Nat.reduceSub, Int.reduceEq, Int.reduceBNe, Int.reduceBEq, ne_eq, not_false_eq_true, pc, ls, bs, and_true, true_and, and_self, Nat.reduceAdd, Nat.le_refl, leafP, pi, la, e1]
  refine CallT.mk (t := ⟨⟩) (rop_q rmul_n (y - x) (ninth m) (sd.mono (by omega)) ((ninth_sz hm10).mono (by omega))) ?_
  simp (maxSteps := 10000000) only [↓sx, sx, ↓ty, ↓reduceIte, Nat.reduceEqDiff, Nat.reduceBeqDiff, Nat.reduceAdd, Nat.reduceLeDiff, Nat.reduceLT, Nat.reduceMul, Nat.reduceSub, Int.reduceEq, Int.reduceBNe, Int.reduceBEq, ne_eq, not_false_eq_true, pc, ls, bs, and_true, true_and, and_self, Nat.reduceAdd, Nat.le_refl, leafP, pi, la, e1]
  refine CallT.mk (t := ⟨⟩) (rop_q radd_n x ((y - x) * ninth m) (hx.mono (by omega)) (sw.mono (by omega))) ?_
  simp (maxSteps := 10000000) only [↓sx, sx, ↓ty, ↓reduceIte, Nat.reduceEqDiff, Nat.reduceBeqDiff, Nat.reduceAdd, Nat.reduceLeDiff, Nat.reduceLT, Nat.reduceMul, Nat.reduceSub, Int.reduceEq, Int.reduceBNe, Int.reduceBEq, ne_eq, not_false_eq_true, pc, ls, bs, and_true, true_and, and_self, Nat.reduceAdd, Nat.le_refl, leafP, pi, la, way]
set_option maxRecDepth 100000 in
set_option maxHeartbeats 16000000 in
theorem contains_n (a b c d : List UInt8) (j k : Int) (hj0 : 0 ≤ j) (hj1 : j ≤ 255) (hk0 : 0 ≤ k) (hk1 : k ≤ 255) : Meets Tryz.prog Gd 9 [ivP a b, ivP c d, .val (.int .u8 j), .val (.int .u8 k)] (.val (.bool true)) := by
  refine meets_of_vc (Y := {}) (N := 179) (rs := [.tmp 8]) mix tk gd Tryz.func9 rfl (by kernel_rfl) rfl rfl (by simp) (by kernel_rfl) ?_
  simp (maxSteps := 10000000) only [↓sx, sx, ↓ty, ↓reduceIte, Nat.reduceEqDiff, Nat.reduceBeqDiff, Nat.reduceAdd, Nat.reduceLeDiff, Nat.reduceLT, Nat.reduceMul, Nat.reduceSub, Int.reduceEq, Int.reduceBNe, Int.reduceBEq, ne_eq, not_false_eq_true, pc, ls, bs, and_true, true_and, and_self, Nat.reduceAdd, Nat.le_refl, leafP, pi, la]
  refine CallT.mk (t := ⟨⟩) awake_n ?_
  simp (maxSteps := 10000000) only [↓sx, sx, ↓ty, ↓reduceIte, Nat.reduceEqDiff, Nat.reduceBeqDiff, Nat.reduceAdd, Nat.reduceLeDiff, Nat.reduceLT, Nat.reduceMul, Nat.reduceSub, Int.reduceEq, Int.reduceBNe, Int.reduceBEq, ne_eq, not_false_eq_true, pc, ls, bs, and_true, true_and, and_self, Nat.reduceAdd, Nat.le_refl, leafP, pi, la]
  refine CallT.mk (t := ⟨⟩) (wide_2 a b c d) ?_
  cases hw : (wideB (a, b) || wideB (c, d)) with
  | true =>
    simp (maxSteps := 10000000) only [↓sx, sx, ↓ty, ↓reduceIte, Nat.reduceEqDiff, Nat.reduceBeqDiff, Nat.reduceAdd, Nat.reduceLeDiff, Nat.reduceLT, Nat.reduceMul, Nat.reduceSub, Int.reduceEq, Int.reduceBNe, Int.reduceBEq, ne_eq, not_false_eq_true, pc, ls, bs, and_true, true_and, and_self, Nat.reduceAdd, Nat.le_refl, leafP, pi, la]
    refine CallT.mk (t := ⟨⟩) awake_n ?_
    simp (maxSteps := 10000000) only [↓sx, sx, ↓ty, ↓reduceIte, Nat.reduceEqDiff, Nat.reduceBeqDiff, Nat.reduceAdd, Nat.reduceLeDiff, Nat.reduceLT, Nat.reduceMul, Nat.reduceSub, Int.reduceEq, Int.reduceBNe, Int.reduceBEq, ne_eq, not_false_eq_true, pc, ls, bs, and_true, true_and, and_self, Nat.reduceAdd, Nat.le_refl, leafP, pi, la]
  | false =>
    obtain ⟨h1, h2, h3, h4⟩ := wide2_no hw
    simp (maxSteps := 10000000) only [↓sx, sx, ↓ty, ↓reduceIte, Nat.reduceEqDiff, Nat.reduceBeqDiff, Nat.reduceAdd, Nat.reduceLeDiff, Nat.reduceLT, Nat.reduceMul, Nat.reduceSub, Int.reduceEq, Int.reduceBNe, Int.reduceBEq, ne_eq, not_false_eq_true, pc, ls, bs, and_true, true_and, and_self, Nat.reduceAdd, Nat.le_refl, leafP, pi, la]
    refine CallT.mk (t := ⟨⟩) (ivalid2_n a b (by omega) (by omega)) ?_
    cases hv : isIv a b with
    | false =>
      simp (maxSteps := 10000000) only [↓sx, sx, ↓ty, ↓reduceIte, Nat.reduceEqDiff, Nat.reduceBeqDiff, Nat.reduceAdd, Nat.reduceLeDiff, Nat.reduceLT, Nat.reduceMul, Nat.reduceSub, Int.reduceEq, Int.reduceBNe, Int.reduceBEq, ne_eq, not_false_eq_true, pc, ls, bs, and_true, true_and, and_self, Nat.reduceAdd, Nat.le_refl, leafP, pi, la]
      refine CallT.mk (t := ⟨⟩) awake_n ?_
      simp (maxSteps := 10000000) only [↓sx, sx, ↓ty, ↓reduceIte, Nat.reduceEqDiff, Nat.reduceBeqDiff, Nat.reduceAdd, Nat.reduceLeDiff, Nat.reduceLT, Nat.reduceMul, Nat.reduceSub, Int.reduceEq, Int.reduceBNe, Int.reduceBEq, ne_eq, not_false_eq_true, pc, ls, bs, and_true, true_and, and_self, Nat.reduceAdd, Nat.le_refl, leafP, pi, la]
    | true =>
      simp (maxSteps := 10000000) only [↓sx, sx, ↓ty, ↓reduceIte, Nat.reduceEqDiff, Nat.reduceBeqDiff, Nat.reduceAdd, Nat.reduceLeDiff, Nat.reduceLT, Nat.reduceMul, Nat.reduceSub, Int.reduceEq, Int.reduceBNe, Int.reduceBEq, ne_eq, not_false_eq_true, pc, ls, bs, and_true, true_and, and_self, Nat.reduceAdd, Nat.le_refl, leafP, pi, la]
      refine CallT.mk (t := ⟨⟩) (ivalid2_n c d (by omega) (by omega)) ?_
      cases hv2 : isIv c d with
      | false =>
        simp (maxSteps := 10000000) only [↓sx, sx, ↓ty, ↓reduceIte, Nat.reduceEqDiff, Nat.reduceBeqDiff, Nat.reduceAdd, Nat.reduceLeDiff, Nat.reduceLT, Nat.reduceMul, Nat.reduceSub, Int.reduceEq, Int.reduceBNe, Int.reduceBEq, ne_eq, not_false_eq_true, pc, ls, bs, and_true, true_and, and_self, Nat.reduceAdd, Nat.le_refl, leafP, pi, la]
        refine CallT.mk (t := ⟨⟩) awake_n ?_
        simp (maxSteps := 10000000) only [↓sx, sx, ↓ty, ↓reduceIte, Nat.reduceEqDiff, Nat.reduceBeqDiff, Nat.reduceAdd, Nat.reduceLeDiff, Nat.reduceLT, Nat.reduceMul, Nat.reduceSub, Int.reduceEq, Int.reduceBNe, Int.reduceBEq, ne_eq, not_false_eq_true, pc, ls, bs, and_true, true_and, and_self, Nat.reduceAdd, Nat.le_refl, leafP, pi, la]
      | true =>
        obtain ⟨a1, a2, rfl, rfl, ha, s1, s2⟩ := iv_of hv
        obtain ⟨b1, b2, rfl, rfl, hb, s3, s4⟩ := iv_of hv2
        have s1 := s1.mono (m := 6) (by omega)
        have s2 := s2.mono (m := 6) (by omega)
        have s3 := s3.mono (m := 6) (by omega)
        have s4 := s4.mono (m := 6) (by omega)
        have P1 := pick_n a1 a2 j s1 s2 hj0 hj1
        have P2 := pick_n b1 b2 k s3 s4 hk0 hk1
        have z1 := way_sz (k := j.toNat % 10) s1 s2 (by omega)
        have z2 := way_sz (k := k.toNat % 10) s3 s4 (by omega)
        have w1 := way_in (k := j.toNat % 10) ha (by omega)
        have w2 := way_in (k := k.toNat % 10) hb (by omega)
        generalize way a1 a2 (j.toNat % 10) = x at *
        generalize way b1 b2 (k.toNat % 10) = y at *
        have H1 := has_y (k := 53) (by omega) (s1.mono (by omega)) (s2.mono (by omega)) z1 w1.1 w1.2
        have H2 := has_y (k := 53) (by omega) (s3.mono (by omega)) (s4.mono (by omega)) z2 w2.1 w2.2
        have A := iadd2_n (rT a1) (rT a2) (rT b1) (rT b2) (by omega) (by omega) (by omega) (by omega)
        have B := isub2_n (rT a1) (rT a2) (rT b1) (rT b2) (by omega) (by omega) (by omega) (by omega)
        have C := imul2_n (rT a1) (rT a2) (rT b1) (rT b2) (by omega) (by omega) (by omega) (by omega)
        have D := isq_n (rT a1) (rT a2) (by omega) (by omega)
        have E := idiv2_n (rT a1) (rT a2) (rT b1) (rT b2) (by omega) (by omega) (by omega) (by omega)
        have Z := zhas_n (rT b1) (rT b2) (by omega) (by omega)
        rw [icor_q _ ha hb] at A B C
        rw [isq_q ha] at D
        rw [corQ_add ha hb] at A
        rw [corQ_sub ha hb] at B
        have zc := corQ_sz (f := (· * ·)) (a1 := a1) (a2 := a2) (b1 := b1) (b2 := b2) (k := 30) fun x y hx hy => (Sz.mul (k := 6) (by rcases hx with rfl | rfl <;> assumption) (by rcases hy with rfl | rfl <;> assumption)).mono (by omega)
        have zs : SzI 30 (sqQ a1 a2) := by
          have e1 := (s1.mul s1).mono (m := 30) (by omega)
          have e2 := (s2.mul s2).mono (m := 30) (by omega)
          unfold sqQ
          split
          · exact endsQ_sz _ _ (Sz0 _ (by omega)) (Sz0 _ (by omega)) (by simp [e1, e2])
          · exact endsQ_sz _ _ e1 e1 (by simp [e2])
        have g1 := has_y (k := 200) (by omega) ((s1.add s3).mono (by omega)) ((s2.add s4).mono (by omega)) ((z1.add z2).mono (by omega)) (show a1 + b1 ≤ x + y by grind) (show x + y ≤ a2 + b2 by grind)
        have g2 := has_y (k := 200) (by omega) ((s1.sub s4).mono (by omega)) ((s2.sub s3).mono (by omega)) ((z1.sub z2).mono (by omega)) (show a1 - b2 ≤ x - y by grind) (show x - y ≤ a2 - b1 by grind)
        have i3 := times_in (p := (a1, a2)) (q := (b1, b2)) w1.1 w1.2 w2.1 w2.2
        rw [← corQ_mul] at i3
        have i4 := sq_has w1.1 w1.2
        have g3 := has_y (k := 200) (by omega) (zc.1.mono (by omega)) (zc.2.mono (by omega)) ((z1.mul z2).mono (by omega)) i3.1 i3.2
        have g4 := has_y (k := 200) (by omega) (zs.1.mono (by omega)) (zs.2.mono (by omega)) ((z1.mul z1).mono (by omega)) i4.1 i4.2
        have i5 := div_in w1.1 w1.2 w2.1 w2.2
        clear i3 i4
        generalize sqQ a1 a2 = sq at *
        generalize corQ (· * ·) a1 a2 b1 b2 = pr at *
        simp (maxSteps := 10000000) only [↓sx, sx, ↓ty, ↓reduceIte, Nat.reduceEqDiff, Nat.reduceBeqDiff, Nat.reduceAdd, Nat.reduceLeDiff, Nat.reduceLT, Nat.reduceMul, Nat.reduceSub, Int.reduceEq, Int.reduceBNe, Int.reduceBEq, ne_eq, not_false_eq_true, pc, ls, bs, and_true, true_and, and_self, Nat.reduceAdd, Nat.le_refl, leafP, pi, la]
        refine CallT.mk (t := ⟨⟩) P1 ?_
        simp (maxSteps := 10000000) only [↓sx, sx, ↓ty, ↓reduceIte, Nat.reduceEqDiff, Nat.reduceBeqDiff, Nat.reduceAdd, Nat.reduceLeDiff, Nat.reduceLT, Nat.reduceMul, Nat.reduceSub, Int.reduceEq, Int.reduceBNe, Int.reduceBEq, ne_eq, not_false_eq_true, pc, ls, bs, and_true, true_and, and_self, Nat.reduceAdd, Nat.le_refl, leafP, pi, la]
        refine CallT.mk (t := ⟨⟩) P2 ?_
        simp (maxSteps := 10000000) only [↓sx, sx, ↓ty, ↓reduceIte, Nat.reduceEqDiff, Nat.reduceBeqDiff, Nat.reduceAdd, Nat.reduceLeDiff, Nat.reduceLT, Nat.reduceMul, Nat.reduceSub, Int.reduceEq, Int.reduceBNe, Int.reduceBEq, ne_eq, not_false_eq_true, pc, ls, bs, and_true, true_and, and_self, Nat.reduceAdd, Nat.le_refl, leafP, pi, la]
        refine CallT.mk (t := ⟨⟩) H1 ?_
        simp (maxSteps := 10000000) only [↓sx, sx, ↓ty, ↓reduceIte, Nat.reduceEqDiff, Nat.reduceBeqDiff, Nat.reduceAdd, Nat.reduceLeDiff, Nat.reduceLT, Nat.reduceMul, Nat.reduceSub, Int.reduceEq, Int.reduceBNe, Int.reduceBEq, ne_eq, not_false_eq_true, pc, ls, bs, and_true, true_and, and_self, Nat.reduceAdd, Nat.le_refl, leafP, pi, la]
        refine CallT.mk (t := ⟨⟩) H2 ?_
        simp (maxSteps := 10000000) only [↓sx, sx, ↓ty, ↓reduceIte, Nat.reduceEqDiff, Nat.reduceBeqDiff, Nat.reduceAdd, Nat.reduceLeDiff, Nat.reduceLT, Nat.reduceMul, Nat.reduceSub, Int.reduceEq, Int.reduceBNe, Int.reduceBEq, ne_eq, not_false_eq_true, pc, ls, bs, and_true, true_and, and_self, Nat.reduceAdd, Nat.le_refl, leafP, pi, la]
        refine CallT.mk (t := ⟨⟩) (rop_q radd_n x y (z1.mono (by omega)) (z2.mono (by omega))) ?_
        simp (maxSteps := 10000000) only [↓sx, sx, ↓ty, ↓reduceIte, Nat.reduceEqDiff, Nat.reduceBeqDiff, Nat.reduceAdd, Nat.reduceLeDiff, Nat.reduceLT, Nat.reduceMul, Nat.reduceSub, Int.reduceEq, Int.reduceBNe, Int.reduceBEq, ne_eq, not_false_eq_true, pc, ls, bs, and_true, true_and, and_self, Nat.reduceAdd, Nat.le_refl, leafP, pi, la]
        refine CallT.mk (t := ⟨⟩) (rop_q rsub_n x y (z1.mono (by omega)) (z2.mono (by omega))) ?_
        simp (maxSteps := 10000000) only [↓sx, sx, ↓ty, ↓reduceIte, Nat.reduceEqDiff, Nat.reduceBeqDiff, Nat.reduceAdd, Nat.reduceLeDiff, Nat.reduceLT, Nat.reduceMul, Nat.reduceSub, Int.reduceEq, Int.reduceBNe, Int.reduceBEq, ne_eq, not_false_eq_true, pc, ls, bs, and_true, true_and, and_self, Nat.reduceAdd, Nat.le_refl, leafP, pi, la]
        refine CallT.mk (t := ⟨⟩) (rop_q rmul_n x y (z1.mono (by omega)) (z2.mono (by omega))) ?_
        simp (maxSteps := 10000000) only [↓sx, sx, ↓ty, ↓reduceIte, Nat.reduceEqDiff, Nat.reduceBeqDiff, Nat.reduceAdd, Nat.reduceLeDiff, Nat.reduceLT, Nat.reduceMul, Nat.reduceSub, Int.reduceEq, Int.reduceBNe, Int.reduceBEq, ne_eq, not_false_eq_true, pc, ls, bs, and_true, true_and, and_self, Nat.reduceAdd, Nat.le_refl, leafP, pi, la]
        refine CallT.mk (t := ⟨⟩) (rop_q rmul_n x x (z1.mono (by omega)) (z1.mono (by omega))) ?_
        simp (maxSteps := 10000000) only [↓sx, sx, ↓ty, ↓reduceIte, Nat.reduceEqDiff, Nat.reduceBeqDiff, Nat.reduceAdd, Nat.reduceLeDiff, Nat.reduceLT, Nat.reduceMul, Nat.reduceSub, Int.reduceEq, Int.reduceBNe, Int.reduceBEq, ne_eq, not_false_eq_true, pc, ls, bs, and_true, true_and, and_self, Nat.reduceAdd, Nat.le_refl, leafP, pi, la]
        refine CallT.mk (t := ⟨⟩) A ?_
        simp (maxSteps := 10000000) only [↓sx, sx, ↓ty, ↓reduceIte, Nat.reduceEqDiff, Nat.reduceBeqDiff, Nat.reduceAdd, Nat.reduceLeDiff, Nat.reduceLT, Nat.reduceMul, Nat.reduceSub, Int.reduceEq, Int.reduceBNe, Int.reduceBEq, ne_eq, not_false_eq_true, pc, ls, bs, and_true, true_and, and_self, Nat.reduceAdd, Nat.le_refl, leafP, pi, la]
        refine CallT.mk (t := ⟨⟩) B ?_
        simp (maxSteps := 10000000) only [↓sx, sx, ↓ty, ↓reduceIte, Nat.reduceEqDiff, Nat.reduceBeqDiff, Nat.reduceAdd, Nat.reduceLeDiff, Nat.reduceLT, Nat.reduceMul, Nat.reduceSub, Int.reduceEq, Int.reduceBNe, Int.reduceBEq, ne_eq, not_false_eq_true, pc, ls, bs, and_true, true_and, and_self, Nat.reduceAdd, Nat.le_refl, leafP, pi, la]
        refine CallT.mk (t := ⟨⟩) C ?_
        simp (maxSteps := 10000000) only [↓sx, sx, ↓ty, ↓reduceIte, Nat.reduceEqDiff, Nat.reduceBeqDiff, Nat.reduceAdd, Nat.reduceLeDiff, Nat.reduceLT, Nat.reduceMul, Nat.reduceSub, Int.reduceEq, Int.reduceBNe, Int.reduceBEq, ne_eq, not_false_eq_true, pc, ls, bs, and_true, true_and, and_self, Nat.reduceAdd, Nat.le_refl, leafP, pi, la]
        refine CallT.mk (t := ⟨⟩) D ?_
        simp (maxSteps := 10000000) only [↓sx, sx, ↓ty, ↓reduceIte, Nat.reduceEqDiff, Nat.reduceBeqDiff, Nat.reduceAdd, Nat.reduceLeDiff, Nat.reduceLT, Nat.reduceMul, Nat.reduceSub, Int.reduceEq, Int.reduceBNe, Int.reduceBEq, ne_eq, not_false_eq_true, pc, ls, bs, and_true, true_and, and_self, Nat.reduceAdd, Nat.le_refl, leafP, pi, la, w4, Int.reduceAdd, bne_self_eq_false]
        refine CallT.mk (t := ⟨⟩) g1 ?_
        simp (maxSteps := 10000000) only [↓sx, sx, ↓ty, ↓reduceIte, Nat.reduceEqDiff, Nat.reduceBeqDiff, Nat.reduceAdd, Nat.reduceLeDiff, Nat.reduceLT, Nat.reduceMul, Nat.reduceSub, Int.reduceEq, Int.reduceBNe, Int.reduceBEq, ne_eq, not_false_eq_true, pc, ls, bs, and_true, true_and, and_self, Nat.reduceAdd, Nat.le_refl, leafP, pi, la, w4, Int.reduceAdd, bne_self_eq_false]
        refine CallT.mk (t := ⟨⟩) g2 ?_
        simp (maxSteps := 10000000) only [↓sx, sx, ↓ty, ↓reduceIte, Nat.reduceEqDiff, Nat.reduceBeqDiff, Nat.reduceAdd, Nat.reduceLeDiff, Nat.reduceLT, Nat.reduceMul, Nat.reduceSub, Int.reduceEq, Int.reduceBNe, Int.reduceBEq, ne_eq, not_false_eq_true, pc, ls, bs, and_true, true_and, and_self, Nat.reduceAdd, Nat.le_refl, leafP, pi, la, w4, Int.reduceAdd, bne_self_eq_false]
        refine CallT.mk (t := ⟨⟩) g3 ?_
        simp (maxSteps := 10000000) only [↓sx, sx, ↓ty, ↓reduceIte, Nat.reduceEqDiff, Nat.reduceBeqDiff, Nat.reduceAdd, Nat.reduceLeDiff, Nat.reduceLT, Nat.reduceMul, Nat.reduceSub, Int.reduceEq, Int.reduceBNe, Int.reduceBEq, ne_eq, not_false_eq_true, pc, ls, bs, and_true, true_and, and_self, Nat.reduceAdd, Nat.le_refl, leafP, pi, la, w4, Int.reduceAdd, bne_self_eq_false]
        refine CallT.mk (t := ⟨⟩) g4 ?_
        simp (maxSteps := 10000000) only [↓sx, sx, ↓ty, ↓reduceIte, Nat.reduceEqDiff, Nat.reduceBeqDiff, Nat.reduceAdd, Nat.reduceLeDiff, Nat.reduceLT, Nat.reduceMul, Nat.reduceSub, Int.reduceEq, Int.reduceBNe, Int.reduceBEq, ne_eq, not_false_eq_true, pc, ls, bs, and_true, true_and, and_self, Nat.reduceAdd, Nat.le_refl, leafP, pi, la, w4, Int.reduceAdd, bne_self_eq_false]
        cases hz : zeroIn (rT b1) (rT b2) with
        | true =>
          have hx : idivP (rT a1) (rT a2) (rT b1) (rT b2) = .tup [ivP [] [], iP 16] := by unfold idivP; rw [hv, hz]; rfl
          rw [hx] at E
          rw [hz] at Z
          refine CallT.mk (t := ⟨⟩) E ?_
          simp (maxSteps := 10000000) only [↓sx, sx, ↓ty, ↓reduceIte, Nat.reduceEqDiff, Nat.reduceBeqDiff, Nat.reduceAdd, Nat.reduceLeDiff, Nat.reduceLT, Nat.reduceMul, Nat.reduceSub, Int.reduceEq, Int.reduceBNe, Int.reduceBEq, ne_eq, not_false_eq_true, pc, ls, bs, and_true, true_and, and_self, Nat.reduceAdd, Nat.le_refl, leafP, pi, la]
          refine CallT.mk (t := ⟨⟩) Z ?_
          simp (maxSteps := 10000000) only [↓sx, sx, ↓ty, ↓reduceIte, Nat.reduceEqDiff, Nat.reduceBeqDiff, Nat.reduceAdd, Nat.reduceLeDiff, Nat.reduceLT, Nat.reduceMul, Nat.reduceSub, Int.reduceEq, Int.reduceBNe, Int.reduceBEq, ne_eq, not_false_eq_true, pc, ls, bs, and_true, true_and, and_self, Nat.reduceAdd, Nat.le_refl, leafP, pi, la, ag, beq_self_eq_true]
        | false =>
          have hx : idivP (rT a1) (rT a2) (rT b1) (rT b2) = icorP (· / ·) (rT a1) (rT a2) (rT b1) (rT b2) := by unfold idivP; rw [hz, Bool.and_false]; rfl
          rw [hx, icor_q _ ha hb] at E
          rw [hz] at Z
          rw [zero_rT hb] at hz
          have hz2 : 0 < b1 ∨ b2 < 0 := by
            rw [Bool.and_eq_false_iff, Bool.not_eq_false', Bool.not_eq_false', decide_eq_true_eq, decide_eq_true_eq] at hz
            exact hz
          have hy0 : y ≠ 0 := by
            rintro rfl
            have := w2.1; have := w2.2
            rcases hz2 with h | h <;> grind
          have zd := corQ_sz (f := (· / ·)) (a1 := a1) (a2 := a2) (b1 := b1) (b2 := b2) (k := 30) fun x y hx hy => (Sz.div (k := 6) (by rcases hx with rfl | rfl <;> assumption) (by rcases hy with rfl | rfl <;> assumption) (by omega)).mono (by omega)
          have i5 := i5 hz2
          have g5 := has_y (k := 200) (by omega) (zd.1.mono (by omega)) (zd.2.mono (by omega)) ((z1.div z2 (by omega)).mono (by omega)) i5.1 i5.2
          generalize corQ (· / ·) a1 a2 b1 b2 = qu at *
          refine CallT.mk (t := ⟨⟩) E ?_
          simp (maxSteps := 10000000) only [↓sx, sx, ↓ty, ↓reduceIte, Nat.reduceEqDiff, Nat.reduceBeqDiff, Nat.reduceAdd, Nat.reduceLeDiff, Nat.reduceLT, Nat.reduceMul, Nat.reduceSub, Int.reduceEq, Int.reduceBNe, Int.reduceBEq, ne_eq, not_false_eq_true, pc, ls, bs, and_true, true_and, and_self, Nat.reduceAdd, Nat.le_refl, leafP, pi, la]
          refine CallT.mk (t := ⟨⟩) Z ?_
          simp (maxSteps := 10000000) only [↓sx, sx, ↓ty, ↓reduceIte, Nat.reduceEqDiff, Nat.reduceBeqDiff, Nat.reduceAdd, Nat.reduceLeDiff, Nat.reduceLT, Nat.reduceMul, Nat.reduceSub, Int.reduceEq, Int.reduceBNe, Int.reduceBEq, ne_eq, not_false_eq_true, pc, ls, bs, and_true, true_and, and_self, Nat.reduceAdd, Nat.le_refl, leafP, pi, la]
          refine CallT.mk (t := ⟨⟩) (rdiv_q x y (z1.mono (by omega)) (z2.mono (by omega)) hy0) ?_
          simp (maxSteps := 10000000) only [↓sx, sx, ↓ty, ↓reduceIte, Nat.reduceEqDiff, Nat.reduceBeqDiff, Nat.reduceAdd, Nat.reduceLeDiff, Nat.reduceLT, Nat.reduceMul, Nat.reduceSub, Int.reduceEq, Int.reduceBNe, Int.reduceBEq, ne_eq, not_false_eq_true, pc, ls, bs, and_true, true_and, and_self, Nat.reduceAdd, Nat.le_refl, leafP, pi, la, ag, beq_self_eq_true]
          refine CallT.mk (t := ⟨⟩) g5 ?_
          simp (maxSteps := 10000000) only [↓sx, sx, ↓ty, ↓reduceIte, Nat.reduceEqDiff, Nat.reduceBeqDiff, Nat.reduceAdd, Nat.reduceLeDiff, Nat.reduceLT, Nat.reduceMul, Nat.reduceSub, Int.reduceEq, Int.reduceBNe, Int.reduceBEq, ne_eq, not_false_eq_true, pc, ls, bs, and_true, true_and, and_self, Nat.reduceAdd, Nat.le_refl, leafP, pi, la]
theorem contains_law (xs : List PV) (h : FitA [.agg [.str, .str], .agg [.str, .str], .int .u8, .int .u8] xs) : Meets Tryz.prog Gd 9 xs (.val (.bool true)) := by
  obtain ⟨_, _, rfl, h1, h⟩ := fita_cons h
  obtain ⟨_, _, rfl, h2, h⟩ := fita_cons h
  obtain ⟨_, _, rfl, h3, h⟩ := fita_cons h
  obtain ⟨_, _, rfl, h4, h⟩ := fita_cons h
  obtain rfl := fita_nil h
  obtain ⟨a, b, rfl⟩ := fit_iv h1
  obtain ⟨c, d, rfl⟩ := fit_iv h2
  obtain ⟨j, rfl, hj⟩ := fit_int h3
  obtain ⟨k, rfl, hk⟩ := fit_int h4
  have := bounds_u8 hj
  have := bounds_u8 hk
  exact contains_n a b c d j k (by omega) (by omega) (by omega) (by omega)
end Go.Proofs.YtkfmneenhochhaaGreatDoor.S
