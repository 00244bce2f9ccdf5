/- RootDecides (law 5): for every three texts and uint16 the statement answers true and does not panic. -/
import Derived.Test.YthhefojkkgjcfaaGreatDoorV28
import Derived.ChangeSame
import Derived.OpenShut
import Derived.Carry
import Derived.ChangeOld
import Derived.ProofKit
import Derived.WalkSpells
import Derived.Laws.AppendOwn
import Derived.Test.YthhefojkkgjcfaaGreatDoorRows
import Derived.Test.YthhefojkkgjcfaaGreatDoorTie
import Derived.Test.YthhefojkkgjcfaaGreatDoorCards
import Derived.SevenTiedAt
import Derived.LaidMore
import Derived.LaidSub
import Derived.Lib.LaidTab
import Derived.Stop.Joined
set_option linter.unusedVariables false
set_option linter.unusedSimpArgs false
set_option linter.unusedSectionVars false
namespace Gb
open Go Go.RowKit Go.Sx
noncomputable def rtQ (x : Rat) (n : Int) : Nat := rt (x * (n * n)).floor.toNat
noncomputable def loQ (x : Rat) (n : Int) : Rat := Rat.divInt (rtQ x n) n
noncomputable def hiQ (x : Rat) (n : Int) : Rat := if ((rtQ x n : Nat) : Rat) * (rtQ x n : Nat) = x * (n * n) then loQ x n else Rat.divInt (rtQ x n + 1) n
end Gb
namespace Go.Proofs.YthhefojkkgjcfaaGreatDoor.S
open Go Go.Sx Go.RowKit Gb Go.Shelf
set_option maxRecDepth 100000 in
set_option maxHeartbeats 4000000 in
theorem encl_n (x : Rat) (n : Int) (hx : Sz 400 x) (h0 : 0 ≤ x) (h1 : 1 ≤ n) (h2 : n ≤ 1000000000) : Meets Tryz.prog Gd 51 [rtP x, iP n] (ivQ (loQ x n, hiQ x n)) := by
  refine meets_of_vd (N := 39) gd Tryz.func51 rfl (by kernel_rfl) rfl (by simp) ?_
  have hn : Lw n.natAbs ≤ 2 := Lw_le (by show n.natAbs < 1000000000 ^ 2; omega)
  have sn : Sz 2 (n : Rat) := Sz.int hn (by omega)
  have nt : siP n = rtP (n : Rat) := by unfold siP rtP; rw [rT_int]
  have snn := sn.mul sn
  have sy := hx.mul (snn.mono (m := 400) (by omega))
  have m1 := rop_q rmul_n (n : Rat) n (sn.mono (by omega)) (sn.mono (by omega))
  rw [← nt] at m1
  refine vd_seq (Y := {}) mix tk (by kernel_rfl) ?_
  simp (maxSteps := 10000000) only [↓sx, sx, ↓ty, ↓reduceIte, Nat.reduceEqDiff, Nat.reduceBeqDiff, Nat.reduceAdd, Nat.reduceLeDiff, Nat.reduceLT, Nat.reduceMul, Nat.reduceSub, Int.reduceEq, Int.reduceBNe, Int.reduceBEq, ne_eq, not_false_eq_true, pc, ls, bs, and_true, true_and, and_self, Nat.reduceAdd, Nat.le_refl, leafP]
  refine vd_seq (Y := {}) mix tk (by kernel_rfl) ?_
  simp (maxSteps := 10000000) only [↓sx, sx, ↓ty, ↓reduceIte, Nat.reduceEqDiff, Nat.reduceBeqDiff, Nat.reduceAdd, Nat.reduceLeDiff, Nat.reduceLT, Nat.reduceMul, Nat.reduceSub, Int.reduceEq, Int.reduceBNe, Int.reduceBEq, ne_eq, not_false_eq_true, pc, ls, bs, and_true, true_and, and_self, Nat.reduceAdd, Nat.le_refl, leafP]
  refine CallT.mk (t := ⟨⟩) (itoa_n n (by omega) (by omega)) ?_
  simp (maxSteps := 10000000) only [↓sx, sx, ↓ty, ↓reduceIte, Nat.reduceEqDiff, Nat.reduceBeqDiff, Nat.reduceAdd, Nat.reduceLeDiff, Nat.reduceLT, Nat.reduceMul, Nat.reduceSub, Int.reduceEq, Int.reduceBNe, Int.reduceBEq, ne_eq, not_false_eq_true, pc, ls, bs, and_true, true_and, and_self, Nat.reduceAdd, Nat.le_refl, leafP]
  refine CallT.mk (t := ⟨⟩) (itoa_n n (by omega) (by omega)) ?_
  simp (maxSteps := 10000000) only [↓sx, sx, ↓ty, ↓reduceIte, Nat.reduceEqDiff, Nat.reduceBeqDiff, Nat.reduceAdd, Nat.reduceLeDiff, Nat.reduceLT, Nat.reduceMul, Nat.reduceSub, Int.reduceEq, Int.reduceBNe, Int.reduceBEq, ne_eq, not_false_eq_true, pc, ls, bs, and_true, true_and, and_self, Nat.reduceAdd, Nat.le_refl, leafP]
  refine CallT.mk (t := ⟨⟩) m1 ?_
  simp (maxSteps := 10000000) only [↓sx, sx, ↓ty, ↓reduceIte, Nat.reduceEqDiff, Nat.reduceBeqDiff, Nat.reduceAdd, Nat.reduceLeDiff, Nat.reduceLT, Nat.reduceMul, Nat.reduceSub, Int.reduceEq, Int.reduceBNe, Int.reduceBEq, ne_eq, not_false_eq_true, pc, ls, bs, and_true, true_and, and_self, Nat.reduceAdd, Nat.le_refl, leafP]
  refine vd_seq (Y := {}) mix tk (by kernel_rfl) ?_
  simp (maxSteps := 10000000) only [↓sx, sx, ↓ty, ↓reduceIte, Nat.reduceEqDiff, Nat.reduceBeqDiff, Nat.reduceAdd, Nat.reduceLeDiff, Nat.reduceLT, Nat.reduceMul, Nat.reduceSub, Int.reduceEq, Int.reduceBNe, Int.reduceBEq, ne_eq, not_false_eq_true, pc, ls, bs, and_true, true_and, and_self, Nat.reduceAdd, Nat.le_refl, leafP]
  refine CallT.mk (t := ⟨⟩) (rop_q rmul_n x (n * n) (hx.mono (by omega)) (snn.mono (by omega))) ?_
  simp (maxSteps := 10000000) only [↓sx, sx, ↓ty, ↓reduceIte, Nat.reduceEqDiff, Nat.reduceBeqDiff, Nat.reduceAdd, Nat.reduceLeDiff, Nat.reduceLT, Nat.reduceMul, Nat.reduceSub, Int.reduceEq, Int.reduceBNe, Int.reduceBEq, ne_eq, not_false_eq_true, pc, ls, bs, and_true, true_and, and_self, Nat.reduceAdd, Nat.le_refl, leafP]
  refine vd_seq (Y := {}) mix tk (by kernel_rfl) ?_
  simp (maxSteps := 10000000) only [↓sx, sx, ↓ty, ↓reduceIte, Nat.reduceEqDiff, Nat.reduceBeqDiff, Nat.reduceAdd, Nat.reduceLeDiff, Nat.reduceLT, Nat.reduceMul, Nat.reduceSub, Int.reduceEq, Int.reduceBNe, Int.reduceBEq, ne_eq, not_false_eq_true, pc, ls, bs, and_true, true_and, and_self, Nat.reduceAdd, Nat.le_refl, leafP]
  have y0 : 0 ≤ x * ((n : Rat) * n) := Rat.mul_nonneg h0 (Rat.mul_nonneg (by exact_mod_cast (show (0 : Int) ≤ n by omega)) (by exact_mod_cast (show (0 : Int) ≤ n by omega)))
  have fl := rfloor_n (rT (x * (n * n))) (by have := rT_len sy; omega)
  have lf := Lw_floor sy
  unfold rfloorP at fl
  obtain ⟨F, hF⟩ : ∃ F : Nat, (x * ((n : Rat) * n)).floor = (F : Int) := ⟨(x * ((n : Rat) * n)).floor.toNat, by have := Rat.le_floor_iff.2 (show ((0 : Int) : Rat) ≤ x * ((n : Rat) * n) by exact_mod_cast y0); omega⟩
  rw [isRat_rT, if_pos rfl, ratOf_rT, hF, siP_nat] at fl
  have hk : rtQ x n = rt F := by unfold rtQ; rw [hF]; rfl
  rw [hF, Int.natAbs_natCast] at lf
  refine CallT.mk (t := ⟨⟩) fl ?_
  simp (maxSteps := 10000000) only [↓sx, sx, ↓ty, ↓reduceIte, Nat.reduceEqDiff, Nat.reduceBeqDiff, Nat.reduceAdd, Nat.reduceLeDiff, Nat.reduceLT, Nat.reduceMul, Nat.reduceSub, Int.reduceEq, Int.reduceBNe, Int.reduceBEq, ne_eq, not_false_eq_true, pc, ls, bs, and_true, true_and, and_self, Nat.reduceAdd, Nat.le_refl, leafP]
  refine vd_seq (Y := {}) mix tk (by kernel_rfl) ?_
  simp (maxSteps := 10000000) only [↓sx, sx, ↓ty, ↓reduceIte, Nat.reduceEqDiff, Nat.reduceBeqDiff, Nat.reduceAdd, Nat.reduceLeDiff, Nat.reduceLT, Nat.reduceMul, Nat.reduceSub, Int.reduceEq, Int.reduceBNe, Int.reduceBEq, ne_eq, not_false_eq_true, pc, ls, bs, and_true, true_and, and_self, Nat.reduceAdd, Nat.le_refl, leafP]
  refine CallT.mk (t := ⟨⟩) (nroot_n F (rt F) (by omega) (rt_spec F)) ?_
  simp (maxSteps := 10000000) only [↓sx, sx, ↓ty, ↓reduceIte, Nat.reduceEqDiff, Nat.reduceBeqDiff, Nat.reduceAdd, Nat.reduceLeDiff, Nat.reduceLT, Nat.reduceMul, Nat.reduceSub, Int.reduceEq, Int.reduceBNe, Int.reduceBEq, ne_eq, not_false_eq_true, pc, ls, bs, and_true, true_and, and_self, Nat.reduceAdd, Nat.le_refl, leafP]
  rw [← hk]
  refine vd_deferL (Y := {}) (Y2 := {}) (N2 := 31) (rs := [.cell 4 24]) 1000 [11, 3, 4, 7] [(11, .box 11 0), (3, .box 3 0), (4, .box 4 0), (7, .box 7 0)] [(11, (9, [dP (rtQ x n)])), (3, (3, [iP n])), (4, (24, [e0, e0])), (7, (22, [rtP (x * (n * n))]))] mix tk rfl Tryz.func114 rfl (by kernel_rfl) rfl rfl (by simp) (by omega) (by omega) (by omega) (by kernel_rfl) (by kernel_rfl) ?_ rfl ⟨rfl, rfl, rfl, rfl, trivial⟩ ?_
  · simp (maxSteps := 10000000) only [isE_nil, is_cons, bo_p, bo_box, bo_orow, bo_rowp, any_cons', all_cons', all_nil', Bool.true_or, Bool.or_true, ↓sx, sx, ↓reduceIte, Nat.reduceEqDiff, Nat.reduceBeqDiff]
    exact ⟨rfl, rfl, rfl, rfl⟩
  · show vc _ _ _ _ _ _ (envL [(11, .box 1011 0), (3, .box 1003 0), (4, .box 1004 0), (7, .box 1007 0)]) (hpL [(1011, (9, [dP (rtQ x n)])), (1003, (3, [iP n])), (1004, (24, [e0, e0])), (1007, (22, [rtP (x * (n * n))]))]) _ _
    generalize hK : (endX fun e h ρ => _) = K
    simp (maxSteps := 10000000) only [↓sx, sx, ↓ty, ↓reduceIte, Nat.reduceEqDiff, Nat.reduceBeqDiff, Nat.reduceAdd, Nat.reduceLeDiff, Nat.reduceLT, Nat.reduceMul, Nat.reduceSub, Int.reduceEq, Int.reduceBNe, Int.reduceBEq, ne_eq, not_false_eq_true, pc, ls, bs, and_true, true_and, and_self, Nat.reduceAdd, Nat.le_refl, leafP]
    refine ⟨rfl, ?_⟩
    subst hK
    refine ⟨rfl, ?_⟩
    show vc _ _ _ _ _ _ (envL [(0, .box 1011 0), (1, .box 1003 0), (2, .box 1004 0), (3, .box 1007 0)]) _ _ _
    have lk : Lw (rtQ x n) ≤ 802 := by rw [hk]; have := Lw_root (rt_spec F).1; omega
    have ov := over_q (rtQ x n : Int) n (by simp; omega) h1 h2
    rw [siP_nat] at ov
    simp (maxSteps := 10000000) only [↓sx, sx, ↓ty, ↓reduceIte, Nat.reduceEqDiff, Nat.reduceBeqDiff, Nat.reduceAdd, Nat.reduceLeDiff, Nat.reduceLT, Nat.reduceMul, Nat.reduceSub, Int.reduceEq, Int.reduceBNe, Int.reduceBEq, ne_eq, not_false_eq_true, pc, ls, bs, and_true, true_and, and_self, Nat.reduceAdd, Nat.le_refl, leafP]
    refine CallT.mk (t := ⟨⟩) ov ?_
    simp (maxSteps := 10000000) only [↓sx, sx, ↓ty, ↓reduceIte, Nat.reduceEqDiff, Nat.reduceBeqDiff, Nat.reduceAdd, Nat.reduceLeDiff, Nat.reduceLT, Nat.reduceMul, Nat.reduceSub, Int.reduceEq, Int.reduceBNe, Int.reduceBEq, ne_eq, not_false_eq_true, pc, ls, bs, and_true, true_and, and_self, Nat.reduceAdd, Nat.le_refl, leafP]
    have im := imul_n (rtQ x n : Int) (rtQ x n) (by simp; omega) (by simp; omega)
    rw [siP_nat] at im
    refine CallT.mk (t := ⟨⟩) im ?_
    simp (maxSteps := 10000000) only [↓sx, sx, ↓ty, ↓reduceIte, Nat.reduceEqDiff, Nat.reduceBeqDiff, Nat.reduceAdd, Nat.reduceLeDiff, Nat.reduceLT, Nat.reduceMul, Nat.reduceSub, Int.reduceEq, Int.reduceBNe, Int.reduceBEq, ne_eq, not_false_eq_true, pc, ls, bs, and_true, true_and, and_self, Nat.reduceAdd, Nat.le_refl, leafP]
    have hI : (((rtQ x n : Nat) : Int) * (rtQ x n : Nat) : Int) = ((rtQ x n * rtQ x n : Nat) : Int) := by push_cast; rfl
    have ble : Nat.ble 1000 1004 = true := rfl
    cases hb : (iD (((rtQ x n : Nat) : Int) * (rtQ x n : Nat)) == rT (x * (n * n))) with
    | true =>
      have hq : ((rtQ x n : Nat) : Rat) * (rtQ x n : Nat) = x * (n * n) := by
        have := eq_of_beq hb
        rw [← rT_int] at this
        have : (((rtQ x n : Nat) : Int) * (rtQ x n : Nat) : Int) = x * ((n : Rat) * n) := by have := congrArg ratOf this; rwa [ratOf_rT, ratOf_rT] at this
        rw [← this]; push_cast; rfl
      have hh : hiQ x n = loQ x n := by unfold hiQ; rw [if_pos hq]
      rw [hh]
      simp (maxSteps := 10000000) only [↓sx, sx, ↓ty, ↓reduceIte, Nat.reduceEqDiff, Nat.reduceBeqDiff, Nat.reduceAdd, Nat.reduceLeDiff, Nat.reduceLT, Nat.reduceMul, Nat.reduceSub, Int.reduceEq, Int.reduceBNe, Int.reduceBEq, ne_eq, not_false_eq_true, pc, ls, bs, and_true, true_and, and_self, Nat.reduceAdd, Nat.le_refl, leafP, endX_r, endX_n, fxE_b, ble, fxK_s]
      rfl
    | false =>
      have hq : ¬ ((rtQ x n : Nat) : Rat) * (rtQ x n : Nat) = x * (n * n) := by
        intro h
        rw [← h, show ((rtQ x n : Nat) : Rat) * (rtQ x n : Nat) = (((rtQ x n : Nat) : Int) * (rtQ x n : Nat) : Int) by push_cast; rfl, rT_int] at hb
        simp at hb
      have hh : hiQ x n = Rat.divInt (rtQ x n + 1) n := by unfold hiQ; rw [if_neg hq]
      rw [hh]
      simp (maxSteps := 10000000) only [↓sx, sx, ↓ty, ↓reduceIte, Nat.reduceEqDiff, Nat.reduceBeqDiff, Nat.reduceAdd, Nat.reduceLeDiff, Nat.reduceLT, Nat.reduceMul, Nat.reduceSub, Int.reduceEq, Int.reduceBNe, Int.reduceBEq, ne_eq, not_false_eq_true, pc, ls, bs, and_true, true_and, and_self, Nat.reduceAdd, Nat.le_refl, leafP]
      have ia := iadd_n (rtQ x n : Int) 1 (by simp; omega) (Nat.lt_of_le_of_lt (Lw_le (k := 1) (by decide)) (by decide))
      rw [siP_nat, show siP 1 = strP [49] by unfold siP; congr 3; unfold iD; rw [if_neg (by decide)]; exact dec_1] at ia
      refine CallT.mk (t := ⟨⟩) ia ?_
      simp (maxSteps := 10000000) only [↓sx, sx, ↓ty, ↓reduceIte, Nat.reduceEqDiff, Nat.reduceBeqDiff, Nat.reduceAdd, Nat.reduceLeDiff, Nat.reduceLT, Nat.reduceMul, Nat.reduceSub, Int.reduceEq, Int.reduceBNe, Int.reduceBEq, ne_eq, not_false_eq_true, pc, ls, bs, and_true, true_and, and_self, Nat.reduceAdd, Nat.le_refl, leafP]
      have l1 := Lw_add (rtQ x n) 1
      have l2 : Lw 1 ≤ 1 := Lw_le (by decide)
      have ov2 := over_q ((rtQ x n : Int) + 1) n (by rw [show ((rtQ x n : Int) + 1).natAbs = rtQ x n + 1 by omega]; omega) h1 h2
      refine CallT.mk (t := ⟨⟩) ov2 ?_
      simp (maxSteps := 10000000) only [↓sx, sx, ↓ty, ↓reduceIte, Nat.reduceEqDiff, Nat.reduceBeqDiff, Nat.reduceAdd, Nat.reduceLeDiff, Nat.reduceLT, Nat.reduceMul, Nat.reduceSub, Int.reduceEq, Int.reduceBNe, Int.reduceBEq, ne_eq, not_false_eq_true, pc, ls, bs, and_true, true_and, and_self, Nat.reduceAdd, Nat.le_refl, leafP, endX_r, endX_n, fxE_b, ble, fxK_s]
      rfl
end Go.Proofs.YthhefojkkgjcfaaGreatDoor.S
namespace Gb
open Go Go.RowKit Go.Sx
noncomputable def sqrtP (l : List UInt8) (n : Int) : PV := if checkI [] [l] n = 0 then .tup [ivQ (loQ (ratOf l) n, hiQ (ratOf l) n), iP 0] else .tup [ivP [] [], iP (checkI [] [l] n)]
noncomputable def ofP (a b : List UInt8) (n : Int) : PV := if isIv a b then (if checkI [] [a] n = 0 then .tup [ivQ (loQ (ratOf a) n, hiQ (ratOf b) n), iP 0] else .tup [ivP [] [], iP (checkI [] [a] n)]) else .tup [ivP [] [], iP 1]
def signI (a b c : Rat) : Int := sumI (a.num.sign * (1 : Int)) (a * a) (b.num.sign * c.num.sign) (b * b * c)
def rsignP (a b c : List UInt8) : PV := if checkI [a, b] [c] 1 = 0 then .tup [iP (signI (ratOf a) (ratOf b) (ratOf c)), iP 0] else .tup [iP 0, iP (checkI [a, b] [c] 1)]
def compI (a b c d : Rat) : Int := sumI (a.num.sign * b.num.sign) (a * a * b) (-(c.num.sign * d.num.sign)) (c * c * d)
def rcompP (a b c d : List UInt8) : PV := if checkI [a, c] [b, d] 1 = 0 then .tup [iP (compI (ratOf a) (ratOf b) (ratOf c) (ratOf d)), iP 0] else .tup [iP 0, iP (checkI [a, c] [b, d] 1)]
theorem check_ok {L U : List (List UInt8)} {n : Int} (h : checkI L U n = 0) : (∀ x ∈ L ++ U, isRat x = true) ∧ (∀ x ∈ U, 0 ≤ ratOf x) ∧ 1 ≤ n ∧ n ≤ 1000000000 := by
  unfold checkI at h
  split at h
  · rename_i h1
    split at h
    · omega
    · rename_i h2
      split at h
      · omega
      · rename_i h3
        refine ⟨List.all_eq_true.1 h1, fun x hx => ?_, by omega, by omega⟩
        refine Rat.not_lt.1 fun h4 => h2 (List.any_eq_true.2 ⟨x, hx, by simpa using h4⟩)
  · omega
theorem rtP_ratOf {l : List UInt8} (h : isRat l = true) : rtP (ratOf l) = strP l := by unfold rtP; rw [rT_ratOf h]
theorem sgn3 (x : Rat) : x.num.sign = -1 ∨ x.num.sign = 0 ∨ x.num.sign = 1 := by
  have := Int.sign_trichotomy x.num; omega
theorem sgn3_mul {a b : Int} (ha : a = -1 ∨ a = 0 ∨ a = 1) (hb : b = -1 ∨ b = 0 ∨ b = 1) : a * b = -1 ∨ a * b = 0 ∨ a * b = 1 := by
  rcases ha with rfl | rfl | rfl <;> rcases hb with rfl | rfl | rfl <;> decide
end Gb
namespace Go.Proofs.YthhefojkkgjcfaaGreatDoor.S
open Go Go.Sx Go.RowKit Gb Go.Shelf
set_option maxRecDepth 100000 in
set_option maxHeartbeats 4000000 in
theorem sqrt_n (l : List UInt8) (n : Int) (hl : l.length < 3500) : Meets Tryz.prog Gd 14 [strP l, iP n] (sqrtP l n) := by
  refine meets_of_vc (Y := { bw := [1], fl := [42] }) (N := 18) (rs := [.cell 4 24, .tmp 5]) mix tk gd Tryz.func14 rfl (by kernel_rfl) rfl rfl (by simp) (by kernel_rfl) ?_
  have hc := check_fl [] [l] n (by simp) (by simp) (by simp) (by simpa using by omega)
  unfold sqrtP
  simp (maxSteps := 10000000) only [↓sx, sx, ↓ty, ↓reduceIte, Nat.reduceEqDiff, Nat.reduceBeqDiff, Nat.reduceAdd, Nat.reduceLeDiff, Nat.reduceLT, Nat.reduceMul, Nat.reduceSub, Int.reduceEq, Int.reduceBNe, Int.reduceBEq, ne_eq, not_false_eq_true, pc, ls, bs, and_true, true_and, and_self, Nat.reduceAdd, Nat.le_refl, leafP, pi]
  refine CallT.mk (t := ⟨⟩) hc ?_
  by_cases he : checkI [] [l] n = 0
  · obtain ⟨g1, g2, g3, g4⟩ := check_ok he
    have hr := g1 l (by simp)
    have en := encl_n (ratOf l) n ((Sz.of hr (k := 399) (by omega)).mono (by omega)) (g2 l (by simp)) g3 g4
    rw [rtP_ratOf hr] at en
    have d0 : (checkI [] [l] n != 0) = false := by simp [he]
    rw [if_pos he]
    simp (maxSteps := 10000000) only [↓sx, sx, ↓ty, ↓reduceIte, Nat.reduceEqDiff, Nat.reduceBeqDiff, Nat.reduceAdd, Nat.reduceLeDiff, Nat.reduceLT, Nat.reduceMul, Nat.reduceSub, Int.reduceEq, Int.reduceBNe, Int.reduceBEq, ne_eq, not_false_eq_true, pc, ls, bs, and_true, true_and, and_self, Nat.reduceAdd, Nat.le_refl, leafP, pi, d0]
    refine CallT.mk (t := ⟨⟩) en ?_
    simp (maxSteps := 10000000) only [↓sx, sx, ↓ty, ↓reduceIte, Nat.reduceEqDiff, Nat.reduceBeqDiff, Nat.reduceAdd, Nat.reduceLeDiff, Nat.reduceLT, Nat.reduceMul, Nat.reduceSub, Int.reduceEq, Int.reduceBNe, Int.reduceBEq, ne_eq, not_false_eq_true, pc, ls, bs, and_true, true_and, and_self, Nat.reduceAdd, Nat.le_refl, leafP, pi]
  · have d0 : (checkI [] [l] n != 0) = true := by simp [he]
    rw [if_neg he]
    simp (maxSteps := 10000000) only [↓sx, sx, ↓ty, ↓reduceIte, Nat.reduceEqDiff, Nat.reduceBeqDiff, Nat.reduceAdd, Nat.reduceLeDiff, Nat.reduceLT, Nat.reduceMul, Nat.reduceSub, Int.reduceEq, Int.reduceBNe, Int.reduceBEq, ne_eq, not_false_eq_true, pc, ls, bs, and_true, true_and, and_self, Nat.reduceAdd, Nat.le_refl, leafP, pi, d0]
set_option maxRecDepth 100000 in
set_option maxHeartbeats 4000000 in
theorem rof_n (a b : List UInt8) (n : Int) (ha : a.length < 3500) (hb : b.length < 3500) : Meets Tryz.prog Gd 16 [ivP a b, iP n] (ofP a b n) := by
  refine meets_of_vc (Y := { bw := [3], fl := [42] }) (N := 31) (rs := [.cell 4 24, .tmp 5]) mix tk gd Tryz.func16 rfl (by kernel_rfl) rfl rfl (by simp) (by kernel_rfl) ?_
  unfold ofP
  simp (maxSteps := 10000000) only [↓sx, sx, ↓ty, ↓reduceIte, Nat.reduceEqDiff, Nat.reduceBeqDiff, Nat.reduceAdd, Nat.reduceLeDiff, Nat.reduceLT, Nat.reduceMul, Nat.reduceSub, Int.reduceEq, Int.reduceBNe, Int.reduceBEq, ne_eq, not_false_eq_true, pc, ls, bs, and_true, true_and, and_self, Nat.reduceAdd, Nat.le_refl, leafP, pi]
  refine CallT.mk (ivalid2_n a b (by omega) (by omega)) ?_
  cases hi : isIv a b with
  | false =>
    simp only [Bool.false_eq_true, if_false]
    simp (maxSteps := 10000000) only [↓sx, sx, ↓ty, ↓reduceIte, Nat.reduceEqDiff, Nat.reduceBeqDiff, Nat.reduceAdd, Nat.reduceLeDiff, Nat.reduceLT, Nat.reduceMul, Nat.reduceSub, Int.reduceEq, Int.reduceBNe, Int.reduceBEq, ne_eq, not_false_eq_true, pc, ls, bs, and_true, true_and, and_self, Nat.reduceAdd, Nat.le_refl, leafP, pi]
  | true =>
    rw [if_pos rfl]
    obtain ⟨i1, i2, i3⟩ := isIv_spec hi
    have hc := check_fl [] [a] n (by simp) (by simp) (by simp) (by simpa using by omega)
    simp (maxSteps := 10000000) only [↓sx, sx, ↓ty, ↓reduceIte, Nat.reduceEqDiff, Nat.reduceBeqDiff, Nat.reduceAdd, Nat.reduceLeDiff, Nat.reduceLT, Nat.reduceMul, Nat.reduceSub, Int.reduceEq, Int.reduceBNe, Int.reduceBEq, ne_eq, not_false_eq_true, pc, ls, bs, and_true, true_and, and_self, Nat.reduceAdd, Nat.le_refl, leafP, pi]
    refine CallT.mk (t := ⟨⟩) hc ?_
    by_cases he : checkI [] [a] n = 0
    · obtain ⟨g1, g2, g3, g4⟩ := check_ok he
      have a0 := g2 a (by simp)
      have en := encl_n (ratOf a) n ((Sz.of i1 (k := 399) (by omega)).mono (by omega)) a0 g3 g4
      rw [rtP_ratOf i1] at en
      have en2 := encl_n (ratOf b) n ((Sz.of i2 (k := 399) (by omega)).mono (by omega)) (by grind) g3 g4
      rw [rtP_ratOf i2] at en2
      have d0 : (checkI [] [a] n != 0) = false := by simp [he]
      rw [if_pos he]
      simp (maxSteps := 10000000) only [↓sx, sx, ↓ty, ↓reduceIte, Nat.reduceEqDiff, Nat.reduceBeqDiff, Nat.reduceAdd, Nat.reduceLeDiff, Nat.reduceLT, Nat.reduceMul, Nat.reduceSub, Int.reduceEq, Int.reduceBNe, Int.reduceBEq, ne_eq, not_false_eq_true, pc, ls, bs, and_true, true_and, and_self, Nat.reduceAdd, Nat.le_refl, leafP, pi, d0]
      refine CallT.mk (t := ⟨⟩) en ?_
      simp (maxSteps := 10000000) only [↓sx, sx, ↓ty, ↓reduceIte, Nat.reduceEqDiff, Nat.reduceBeqDiff, Nat.reduceAdd, Nat.reduceLeDiff, Nat.reduceLT, Nat.reduceMul, Nat.reduceSub, Int.reduceEq, Int.reduceBNe, Int.reduceBEq, ne_eq, not_false_eq_true, pc, ls, bs, and_true, true_and, and_self, Nat.reduceAdd, Nat.le_refl, leafP, pi]
      refine CallT.mk (t := ⟨⟩) en2 ?_
      simp (maxSteps := 10000000) only [↓sx, sx, ↓ty, ↓reduceIte, Nat.reduceEqDiff, Nat.reduceBeqDiff, Nat.reduceAdd, Nat.reduceLeDiff, Nat.reduceLT, Nat.reduceMul, Nat.reduceSub, Int.reduceEq, Int.reduceBNe, Int.reduceBEq, ne_eq, not_false_eq_true, pc, ls, bs, and_true, true_and, and_self, Nat.reduceAdd, Nat.le_refl, leafP, pi]
    · have d0 : (checkI [] [a] n != 0) = true := by simp [he]
      rw [if_neg he]
      simp (maxSteps := 10000000) only [↓sx, sx, ↓ty, ↓reduceIte, Nat.reduceEqDiff, Nat.reduceBeqDiff, Nat.reduceAdd, Nat.reduceLeDiff, Nat.reduceLT, Nat.reduceMul, Nat.reduceSub, Int.reduceEq, Int.reduceBNe, Int.reduceBEq, ne_eq, not_false_eq_true, pc, ls, bs, and_true, true_and, and_self, Nat.reduceAdd, Nat.le_refl, leafP, pi, d0]
set_option maxRecDepth 100000 in
set_option maxHeartbeats 4000000 in
theorem rsign3_n (a b c : List UInt8) (ha : a.length < 3500) (hb : b.length < 3500) (hc : c.length < 3500) : Meets Tryz.prog Gd 18 [strP a, strP b, strP c] (rsignP a b c) := by
  refine meets_of_vc (Y := { bw := [1], fl := [42] }) (N := 38) (rs := [.tmp 6, .tmp 7]) mix tk gd Tryz.func18 rfl (by kernel_rfl) rfl rfl (by simp) (by kernel_rfl) ?_
  have hk := check_fl [a, b] [c] 1 (by simp) (by simp) (by simp) (by simp; omega)
  unfold rsignP
  simp (maxSteps := 10000000) only [↓sx, sx, ↓ty, ↓reduceIte, Nat.reduceEqDiff, Nat.reduceBeqDiff, Nat.reduceAdd, Nat.reduceLeDiff, Nat.reduceLT, Nat.reduceMul, Nat.reduceSub, Int.reduceEq, Int.reduceBNe, Int.reduceBEq, ne_eq, not_false_eq_true, pc, ls, bs, and_true, true_and, and_self, Nat.reduceAdd, Nat.le_refl, leafP]
  refine CallT.mk (t := ⟨⟩) hk ?_
  by_cases he : checkI [a, b] [c] 1 = 0
  · obtain ⟨g1, g2, g3, g4⟩ := check_ok he
    have ra := g1 a (by simp)
    have rb := g1 b (by simp)
    have rc := g1 c (by simp)
    have za : Sz 400 (ratOf a) := Sz.of ra (k := 399) (by omega)
    have zb : Sz 400 (ratOf b) := Sz.of rb (k := 399) (by omega)
    have zc : Sz 400 (ratOf c) := Sz.of rc (k := 399) (by omega)
    have z1 : Sz 400 (1 : Rat) := Sz.int (z := 1) (by rw [show (1 : Int).natAbs = 1 from rfl, Lw_one]; omega) (by omega)
    have p1 := part_q (ratOf a) 1 za z1
    have p2 := part_q (ratOf b) (ratOf c) zb zc
    have o1 : rtP 1 = strP [49] := by unfold rtP; rw [show (1 : Rat) = ((1 : Int) : Rat) by rfl, rT_int]; congr 3; unfold iD; rw [if_neg (by decide)]; exact dec_1
    rw [rtP_ratOf ra, o1, show (ratOf a * ratOf a * 1 : Rat) = ratOf a * ratOf a by grind, show (1 : Rat).num.sign = 1 from rfl] at p1
    rw [rtP_ratOf rb, rtP_ratOf rc] at p2
    have d0 : (checkI [a, b] [c] 1 != 0) = false := by simp [he]
    rw [if_pos he]
    simp (maxSteps := 10000000) only [↓sx, sx, ↓ty, ↓reduceIte, Nat.reduceEqDiff, Nat.reduceBeqDiff, Nat.reduceAdd, Nat.reduceLeDiff, Nat.reduceLT, Nat.reduceMul, Nat.reduceSub, Int.reduceEq, Int.reduceBNe, Int.reduceBEq, ne_eq, not_false_eq_true, pc, ls, bs, and_true, true_and, and_self, Nat.reduceAdd, Nat.le_refl, leafP, d0]
    refine CallT.mk (t := ⟨⟩) p1 ?_
    simp (maxSteps := 10000000) only [↓sx, sx, ↓ty, ↓reduceIte, Nat.reduceEqDiff, Nat.reduceBeqDiff, Nat.reduceAdd, Nat.reduceLeDiff, Nat.reduceLT, Nat.reduceMul, Nat.reduceSub, Int.reduceEq, Int.reduceBNe, Int.reduceBEq, ne_eq, not_false_eq_true, pc, ls, bs, and_true, true_and, and_self, Nat.reduceAdd, Nat.le_refl, leafP]
    refine CallT.mk (t := ⟨⟩) p2 ?_
    simp (maxSteps := 10000000) only [↓sx, sx, ↓ty, ↓reduceIte, Nat.reduceEqDiff, Nat.reduceBeqDiff, Nat.reduceAdd, Nat.reduceLeDiff, Nat.reduceLT, Nat.reduceMul, Nat.reduceSub, Int.reduceEq, Int.reduceBNe, Int.reduceBEq, ne_eq, not_false_eq_true, pc, ls, bs, and_true, true_and, and_self, Nat.reduceAdd, Nat.le_refl, leafP]
    refine CallT.mk (t := ⟨⟩) (sum_q _ _ _ _ (sgn3_mul (sgn3 _) (by omega)) (sgn3_mul (sgn3 _) (sgn3 _)) ((za.mul za).mono (by omega)) (((zb.mul zb).mul (zc.mono (by omega))).mono (by omega))) ?_
    simp (maxSteps := 10000000) only [↓sx, sx, ↓ty, ↓reduceIte, Nat.reduceEqDiff, Nat.reduceBeqDiff, Nat.reduceAdd, Nat.reduceLeDiff, Nat.reduceLT, Nat.reduceMul, Nat.reduceSub, Int.reduceEq, Int.reduceBNe, Int.reduceBEq, ne_eq, not_false_eq_true, pc, ls, bs, and_true, true_and, and_self, Nat.reduceAdd, Nat.le_refl, leafP]
    rfl
  · have d0 : (checkI [a, b] [c] 1 != 0) = true := by simp [he]
    rw [if_neg he]
    simp (maxSteps := 10000000) only [↓sx, sx, ↓ty, ↓reduceIte, Nat.reduceEqDiff, Nat.reduceBeqDiff, Nat.reduceAdd, Nat.reduceLeDiff, Nat.reduceLT, Nat.reduceMul, Nat.reduceSub, Int.reduceEq, Int.reduceBNe, Int.reduceBEq, ne_eq, not_false_eq_true, pc, ls, bs, and_true, true_and, and_self, Nat.reduceAdd, Nat.le_refl, leafP, d0]
set_option maxRecDepth 100000 in
set_option maxHeartbeats 4000000 in
theorem rcomp_n (a b c d : List UInt8) (ha : a.length < 3500) (hb : b.length < 3500) (hc : c.length < 3500) (hd : d.length < 3500) : Meets Tryz.prog Gd 20 [strP a, strP b, strP c, strP d] (rcompP a b c d) := by
  refine meets_of_vc (Y := { bw := [1], fl := [42] }) (N := 43) (rs := [.tmp 8, .tmp 9]) mix tk gd Tryz.func20 rfl (by kernel_rfl) rfl rfl (by simp) (by kernel_rfl) ?_
  have hk := check_fl [a, c] [b, d] 1 (by simp) (by simp) (by simp) (by simp; omega)
  unfold rcompP
  simp (maxSteps := 10000000) only [↓sx, sx, ↓ty, ↓reduceIte, Nat.reduceEqDiff, Nat.reduceBeqDiff, Nat.reduceAdd, Nat.reduceLeDiff, Nat.reduceLT, Nat.reduceMul, Nat.reduceSub, Int.reduceEq, Int.reduceBNe, Int.reduceBEq, ne_eq, not_false_eq_true, pc, ls, bs, and_true, true_and, and_self, Nat.reduceAdd, Nat.le_refl, leafP]
  refine CallT.mk (t := ⟨⟩) hk ?_
  by_cases he : checkI [a, c] [b, d] 1 = 0
  · obtain ⟨g1, g2, g3, g4⟩ := check_ok he
    have ra := g1 a (by simp)
    have rb := g1 b (by simp)
    have rc := g1 c (by simp)
    have rd := g1 d (by simp)
    have za : Sz 400 (ratOf a) := Sz.of ra (k := 399) (by omega)
    have zb : Sz 400 (ratOf b) := Sz.of rb (k := 399) (by omega)
    have zc : Sz 400 (ratOf c) := Sz.of rc (k := 399) (by omega)
    have zd : Sz 400 (ratOf d) := Sz.of rd (k := 399) (by omega)
    have p1 := part_q (ratOf a) (ratOf b) za zb
    have p2 := part_q (ratOf c) (ratOf d) zc zd
    rw [rtP_ratOf ra, rtP_ratOf rb] at p1
    rw [rtP_ratOf rc, rtP_ratOf rd] at p2
    have d0 : (checkI [a, c] [b, d] 1 != 0) = false := by simp [he]
    have hs := sgn3_mul (sgn3 (ratOf c)) (sgn3 (ratOf d))
    have hneg : IntKind.i64.wrap (0 - (ratOf c).num.sign * (ratOf d).num.sign) = -((ratOf c).num.sign * (ratOf d).num.sign) := by rw [i64_id (by omega) (by omega)]; omega
    rw [if_pos he]
    simp (maxSteps := 10000000) only [↓sx, sx, ↓ty, ↓reduceIte, Nat.reduceEqDiff, Nat.reduceBeqDiff, Nat.reduceAdd, Nat.reduceLeDiff, Nat.reduceLT, Nat.reduceMul, Nat.reduceSub, Int.reduceEq, Int.reduceBNe, Int.reduceBEq, ne_eq, not_false_eq_true, pc, ls, bs, and_true, true_and, and_self, Nat.reduceAdd, Nat.le_refl, leafP, d0]
    refine CallT.mk (t := ⟨⟩) p1 ?_
    simp (maxSteps := 10000000) only [↓sx, sx, ↓ty, ↓reduceIte, Nat.reduceEqDiff, Nat.reduceBeqDiff, Nat.reduceAdd, Nat.reduceLeDiff, Nat.reduceLT, Nat.reduceMul, Nat.reduceSub, Int.reduceEq, Int.reduceBNe, Int.reduceBEq, ne_eq, not_false_eq_true, pc, ls, bs, and_true, true_and, and_self, Nat.reduceAdd, Nat.le_refl, leafP]
    refine CallT.mk (t := ⟨⟩) p2 ?_
    simp (maxSteps := 10000000) only [↓sx, sx, ↓ty, ↓reduceIte, Nat.reduceEqDiff, Nat.reduceBeqDiff, Nat.reduceAdd, Nat.reduceLeDiff, Nat.reduceLT, Nat.reduceMul, Nat.reduceSub, Int.reduceEq, Int.reduceBNe, Int.reduceBEq, ne_eq, not_false_eq_true, pc, ls, bs, and_true, true_and, and_self, Nat.reduceAdd, Nat.le_refl, leafP, hneg]
    refine CallT.mk (t := ⟨⟩) (sum_q _ _ _ _ (sgn3_mul (sgn3 _) (sgn3 _)) (by omega) (((za.mul za).mul (zb.mono (by omega))).mono (by omega)) (((zc.mul zc).mul (zd.mono (by omega))).mono (by omega))) ?_
    simp (maxSteps := 10000000) only [↓sx, sx, ↓ty, ↓reduceIte, Nat.reduceEqDiff, Nat.reduceBeqDiff, Nat.reduceAdd, Nat.reduceLeDiff, Nat.reduceLT, Nat.reduceMul, Nat.reduceSub, Int.reduceEq, Int.reduceBNe, Int.reduceBEq, ne_eq, not_false_eq_true, pc, ls, bs, and_true, true_and, and_self, Nat.reduceAdd, Nat.le_refl, leafP]
    rfl
  · have d0 : (checkI [a, c] [b, d] 1 != 0) = true := by simp [he]
    rw [if_neg he]
    simp (maxSteps := 10000000) only [↓sx, sx, ↓ty, ↓reduceIte, Nat.reduceEqDiff, Nat.reduceBeqDiff, Nat.reduceAdd, Nat.reduceLeDiff, Nat.reduceLT, Nat.reduceMul, Nat.reduceSub, Int.reduceEq, Int.reduceBNe, Int.reduceBEq, ne_eq, not_false_eq_true, pc, ls, bs, and_true, true_and, and_self, Nat.reduceAdd, Nat.le_refl, leafP, d0]
end Go.Proofs.YthhefojkkgjcfaaGreatDoor.S
namespace Gb
open Go Go.RowKit Go.Sx
def sqSum (L : List (List UInt8)) : Rat := L.foldl (fun s x => s + ratOf x * ratOf x) 0
theorem sqSum_snoc (L : List (List UInt8)) (x : List UInt8) : sqSum (L ++ [x]) = sqSum L + ratOf x * ratOf x := by unfold sqSum; rw [List.foldl_append]; rfl
theorem Sz.add2 {k m : Nat} {x y : Rat} (hx : Sz k x) (hy : Sz m y) : Sz (k + m + 1) (x + y) := by
  rw [Rat.add_def]
  have h1 := Lw_imul x.num y.den
  have h2 := Lw_imul y.num x.den
  have h3 := Lw_iadd (x.num * y.den) (y.num * x.den)
  have h4 := Lw_mul x.den y.den
  have := hx.1; have := hx.2; have := hy.1; have := hy.2
  simp only [Int.natAbs_natCast] at h1 h2
  exact Sz.norm _ (by omega) (by omega)
theorem rev_ind {α : Type} {p : List α → Prop} (h0 : p []) (h1 : ∀ l x, p l → p (l ++ [x])) : ∀ l, p l := by
  have : ∀ l : List α, p l.reverse := by
    intro l
    induction l with
    | nil => exact h0
    | cons x l ih => rw [List.reverse_cons]; exact h1 _ _ ih
  intro l
  have := this l.reverse
  rwa [List.reverse_reverse] at this
theorem sqSum_sz : ∀ (L : List (List UInt8)), (∀ x ∈ L, isRat x = true ∧ x.length ≤ 40) → Sz (14 * L.length + 1) (sqSum L) := by
  refine rev_ind ?_ ?_
  · intro _; exact Sz0 _ (by omega)
  · intro L x ih h
    have hx := h x (by simp)
    have := ih fun y hy => h y (by simp [hy])
    have zx : Sz 6 (ratOf x) := Sz.of hx.1 (k := 5) (by omega)
    rw [sqSum_snoc]
    exact (this.add2 (zx.mul zx)).mono (by simp; omega)
theorem sq_nn (x : Rat) : 0 ≤ x * x := by
  rcases Rat.le_total (a := 0) (b := x) with h | h
  · exact Rat.mul_nonneg h h
  · have := Rat.mul_nonneg (show 0 ≤ -x by grind) (show 0 ≤ -x by grind); grind
theorem sqSum_nn : ∀ (L : List (List UInt8)), 0 ≤ sqSum L := by
  refine rev_ind ?_ ?_
  · exact Rat.le_refl
  · intro L x ih
    rw [sqSum_snoc]; have := sq_nn (ratOf x); grind
theorem take_snocD {L : List (List UInt8)} {i : Nat} (h : i < L.length) : L.take (i + 1) = L.take i ++ [L.getD i []] := by
  rw [List.take_succ_eq_append_getElem h, List.getD_eq_getElem?_getD, List.getElem?_eq_getElem h]; rfl
noncomputable def normP (L : List (List UInt8)) (n : Int) : PV := if 64 < L.length then .tup [ivP [] [], iP 8] else if checkI L [] n = 0 then .tup [ivQ (loQ (sqSum L) n, hiQ (sqSum L) n), iP 0] else .tup [ivP [] [], iP (checkI L [] n)]
end Gb
namespace Go.Proofs.YthhefojkkgjcfaaGreatDoor.S
open Go Go.Sx Go.RowKit Gb Go.Shelf
set_option maxRecDepth 100000 in
set_option maxHeartbeats 4000000 in
theorem rnorm_n (L : List (List UInt8)) (n : Int) (hL : L.length ≤ 8 ∨ L.length = 65) (hs : ∀ x ∈ L, x.length ≤ 40) : Meets Tryz.prog Gd 25 [.sl L.length (strsP L), iP n] (normP L n) := by
  refine meets_of_vc (Y := { bw := [3], fl := [42] }) (N := 46) (rs := [.cell 4 24, .tmp 5]) mix tk gd Tryz.func25 rfl (by kernel_rfl) rfl rfl (by simp) (by kernel_rfl) ?_
  unfold normP
  by_cases h64 : 64 < L.length
  · rw [if_pos h64]
    have d0 : decide ((L.length : Int) > 64) = true := by simp; omega
    simp (maxSteps := 10000000) only [↓sx, sx, ↓ty, ↓reduceIte, Nat.reduceEqDiff, Nat.reduceBeqDiff, Nat.reduceAdd, Nat.reduceLeDiff, Nat.reduceLT, Nat.reduceMul, Nat.reduceSub, Int.reduceEq, Int.reduceBNe, Int.reduceBEq, ne_eq, not_false_eq_true, pc, ls, bs, and_true, true_and, and_self, Nat.reduceAdd, Nat.le_refl, leafP, pi, d0]
  · rw [if_neg h64]
    have d0 : decide ((L.length : Int) > 64) = false := by simp; omega
    simp (maxSteps := 10000000) only [↓sx, sx, ↓ty, ↓reduceIte, Nat.reduceEqDiff, Nat.reduceBeqDiff, Nat.reduceAdd, Nat.reduceLeDiff, Nat.reduceLT, Nat.reduceMul, Nat.reduceSub, Int.reduceEq, Int.reduceBNe, Int.reduceBEq, ne_eq, not_false_eq_true, pc, ls, bs, and_true, true_and, and_self, Nat.reduceAdd, Nat.le_refl, leafP, pi, d0]
    have hL8 : L.length ≤ 8 := by omega
    have hck := check_sl L [] n (by omega) rfl (fun x hx => by have := hs x hx; omega)
    rcases Nat.eq_zero_or_pos L.length with hz | hz
    · have hL0 : L = [] := List.length_eq_zero_iff.1 hz
      have d1 : decide (((0 : Nat) : Int) > 64) = false := by decide
      have c0 : ((0 : Nat) : Int) = 0 := rfl
      rw [hz, show strsP L = [] by rw [hL0]; rfl] at hck
      rw [hz]
      simp (maxSteps := 10000000) only [↓sx, sx, ↓ty, ↓reduceIte, Nat.reduceEqDiff, Nat.reduceBeqDiff, Nat.reduceAdd, Nat.reduceLeDiff, Nat.reduceLT, Nat.reduceMul, Nat.reduceSub, Int.reduceEq, Int.reduceBNe, Int.reduceBEq, ne_eq, not_false_eq_true, pc, ls, bs, and_true, true_and, and_self, Nat.reduceAdd, Nat.le_refl, leafP, pi, d1]
      refine CallT.mk (t := ⟨⟩) hck ?_
      by_cases he : checkI L [] n = 0
      · obtain ⟨g1, _, g3, g4⟩ := check_ok he
        rw [if_pos he]
        have e0' : (checkI L [] n != 0) = false := by simp [he]
        simp (maxSteps := 10000000) only [↓sx, sx, ↓ty, ↓reduceIte, Nat.reduceEqDiff, Nat.reduceBeqDiff, Nat.reduceAdd, Nat.reduceLeDiff, Nat.reduceLT, Nat.reduceMul, Nat.reduceSub, Int.reduceEq, Int.reduceBNe, Int.reduceBEq, ne_eq, not_false_eq_true, pc, ls, bs, and_true, true_and, and_self, Nat.reduceAdd, Nat.le_refl, leafP, pi, e0']
        refine loopK_of (fun i : Nat => [(1, .p (iP n)), (4, .box 4 0), (7, .p (rtP (sqSum (L.take i)))), (24, .p (.sl 0 (strsP L))), (25, .p (.val (.int .i64 ((0 : Nat) : Int)))), (26, .p (.val (.int .i64 (i : Nat))))]) (fun _ => [(4, (24, [e0, e0]))]) (fun _ => []) (fun i => i ≤ L.length) (fun i => L.length - i) 0 (Nat.zero_le _) ?_ ?_
        · simp (maxSteps := 10000000) only [isE_nil, is_cons, bo_p, bo_box, bo_orow, bo_rowp, any_cons', all_cons', all_nil', Bool.true_or, Bool.or_true, ↓sx, sx, ↓reduceIte, Nat.reduceEqDiff, Nat.reduceBeqDiff]
          rw [show sqSum [] = 0 from rfl, rtP_0]
          exact ⟨rfl, rfl, rfl, rfl⟩
        · intro i hi
          have hall : ∀ x ∈ L.take i, isRat x = true ∧ x.length ≤ 40 := fun x hx => ⟨g1 x (by simpa using List.mem_of_mem_take hx), hs x (List.mem_of_mem_take hx)⟩
          have sz := sqSum_sz _ hall
          have lt8 : (L.take i).length ≤ 8 := by rw [List.length_take]; omega
          by_cases hil : i < L.length
          · have e1 : decide ((i : Int) < ((0 : Nat) : Int)) = true := by simp; omega
            have hm := getD_mem hil
            have hr := g1 (L.getD i []) (by simpa using hm)
            have hz1 := hs _ hm
            have zx : Sz 6 (ratOf (L.getD i [])) := Sz.of hr (k := 5) (by omega)
            have zxx := zx.mul zx
            have m1 := rop_q rmul_n (ratOf (L.getD i [])) (ratOf (L.getD i [])) (zx.mono (by omega)) (zx.mono (by omega))
            have m2 := rop_q radd_n (sqSum (L.take i)) (ratOf (L.getD i []) * ratOf (L.getD i [])) (sz.mono (by omega)) (zxx.mono (by omega))
            rw [rtP_ratOf hr] at m1
            rw [← sqSum_snoc, ← take_snocD hil] at m2
            simp (maxSteps := 10000000) only [↓sx, sx, ↓ty, ↓reduceIte, Nat.reduceEqDiff, Nat.reduceBeqDiff, Nat.reduceAdd, Nat.reduceLeDiff, Nat.reduceLT, Nat.reduceMul, Nat.reduceSub, Int.reduceEq, Int.reduceBNe, Int.reduceBEq, ne_eq, not_false_eq_true, pc, ls, bs, and_true, true_and, and_self, Nat.reduceAdd, Nat.le_refl, leafP, pi, e1]
            refine ⟨⟨by omega, by omega, by unfold strsP; simp; omega⟩, ?_⟩
            rw [strs_get hil]
            simp (maxSteps := 10000000) only [↓sx, sx, ↓ty, ↓reduceIte, Nat.reduceEqDiff, Nat.reduceBeqDiff, Nat.reduceAdd, Nat.reduceLeDiff, Nat.reduceLT, Nat.reduceMul, Nat.reduceSub, Int.reduceEq, Int.reduceBNe, Int.reduceBEq, ne_eq, not_false_eq_true, pc, ls, bs, and_true, true_and, and_self, Nat.reduceAdd, Nat.le_refl, leafP, pi]
            refine CallT.mk (t := ⟨⟩) m1 ?_
            simp (maxSteps := 10000000) only [↓sx, sx, ↓ty, ↓reduceIte, Nat.reduceEqDiff, Nat.reduceBeqDiff, Nat.reduceAdd, Nat.reduceLeDiff, Nat.reduceLT, Nat.reduceMul, Nat.reduceSub, Int.reduceEq, Int.reduceBNe, Int.reduceBEq, ne_eq, not_false_eq_true, pc, ls, bs, and_true, true_and, and_self, Nat.reduceAdd, Nat.le_refl, leafP, pi]
            refine CallT.mk (t := ⟨⟩) m2 ?_
            simp (maxSteps := 10000000) only [↓sx, sx, ↓ty, ↓reduceIte, Nat.reduceEqDiff, Nat.reduceBeqDiff, Nat.reduceAdd, Nat.reduceLeDiff, Nat.reduceLT, Nat.reduceMul, Nat.reduceSub, Int.reduceEq, Int.reduceBNe, Int.reduceBEq, ne_eq, not_false_eq_true, pc, ls, bs, and_true, true_and, and_self, Nat.reduceAdd, Nat.le_refl, leafP, pi]
            refine NextK.mk (i + 1) (by omega) (by omega) ?_
            simp (maxSteps := 10000000) only [isE_nil, is_cons, bo_p, bo_box, bo_orow, bo_rowp, any_cons', all_cons', all_nil', Bool.true_or, Bool.or_true, ↓sx, sx, ↓reduceIte, Nat.reduceEqDiff, Nat.reduceBeqDiff]
            rw [i64_id (by omega) (by omega)]
            rfl
          · obtain rfl : i = L.length := by omega
            have e1 : decide (((L.length : Nat) : Int) < ((0 : Nat) : Int)) = false := by first | (simp; done) | (simp; omega)
            rw [List.take_length] at sz
            rw [List.take_length]
            have en := encl_n (sqSum L) n (sz.mono (by omega)) (sqSum_nn L) g3 g4
            simp (maxSteps := 10000000) only [↓sx, sx, ↓ty, ↓reduceIte, Nat.reduceEqDiff, Nat.reduceBeqDiff, Nat.reduceAdd, Nat.reduceLeDiff, Nat.reduceLT, Nat.reduceMul, Nat.reduceSub, Int.reduceEq, Int.reduceBNe, Int.reduceBEq, ne_eq, not_false_eq_true, pc, ls, bs, and_true, true_and, and_self, Nat.reduceAdd, Nat.le_refl, leafP, pi, e1]
            refine CallT.mk (t := ⟨⟩) en ?_
            simp (maxSteps := 10000000) only [↓sx, sx, ↓ty, ↓reduceIte, Nat.reduceEqDiff, Nat.reduceBeqDiff, Nat.reduceAdd, Nat.reduceLeDiff, Nat.reduceLT, Nat.reduceMul, Nat.reduceSub, Int.reduceEq, Int.reduceBNe, Int.reduceBEq, ne_eq, not_false_eq_true, pc, ls, bs, and_true, true_and, and_self, Nat.reduceAdd, Nat.le_refl, leafP, pi]
            rw [if_pos he]
      · rw [if_neg he]
        have e0' : (checkI L [] n != 0) = true := by simp [he]
        simp (maxSteps := 10000000) only [↓sx, sx, ↓ty, ↓reduceIte, Nat.reduceEqDiff, Nat.reduceBeqDiff, Nat.reduceAdd, Nat.reduceLeDiff, Nat.reduceLT, Nat.reduceMul, Nat.reduceSub, Int.reduceEq, Int.reduceBNe, Int.reduceBEq, ne_eq, not_false_eq_true, pc, ls, bs, and_true, true_and, and_self, Nat.reduceAdd, Nat.le_refl, leafP, pi, e0']
    · obtain ⟨k, hk⟩ : ∃ k, L.length = k + 1 := ⟨L.length - 1, by omega⟩
      have d1 : decide ((((k + 1 : Nat)) : Int) > 64) = false := by simp; omega
      rw [hk] at hck
      rw [hk]
      simp (maxSteps := 10000000) only [↓sx, sx, ↓ty, ↓reduceIte, Nat.reduceEqDiff, Nat.reduceBeqDiff, Nat.reduceAdd, Nat.reduceLeDiff, Nat.reduceLT, Nat.reduceMul, Nat.reduceSub, Int.reduceEq, Int.reduceBNe, Int.reduceBEq, ne_eq, not_false_eq_true, pc, ls, bs, and_true, true_and, and_self, Nat.reduceAdd, Nat.le_refl, leafP, pi, d1]
      refine ⟨⟨by omega, by unfold strsP; simp [hk], by unfold strsP; rw [List.all_map, List.all_eq_true]; intro x _; rfl, by simp only [maxLen]; omega, by omega⟩, ?_⟩
      rw [Nat.zero_add]
      refine CallT.mk (t := ⟨⟩) hck ?_
      by_cases he : checkI L [] n = 0
      · obtain ⟨g1, _, g3, g4⟩ := check_ok he
        rw [if_pos he]
        have e0' : (checkI L [] n != 0) = false := by simp [he]
        simp (maxSteps := 10000000) only [↓sx, sx, ↓ty, ↓reduceIte, Nat.reduceEqDiff, Nat.reduceBeqDiff, Nat.reduceAdd, Nat.reduceLeDiff, Nat.reduceLT, Nat.reduceMul, Nat.reduceSub, Int.reduceEq, Int.reduceBNe, Int.reduceBEq, ne_eq, not_false_eq_true, pc, ls, bs, and_true, true_and, and_self, Nat.reduceAdd, Nat.le_refl, leafP, pi, e0']
        refine loopK_of (fun i : Nat => [(1, .p (iP n)), (4, .box 4 0), (7, .p (rtP (sqSum (L.take i)))), (24, .p (.sl (k + 1) (strsP L))), (25, .p (.val (.int .i64 (((k + 1) : Nat) : Int)))), (26, .p (.val (.int .i64 (i : Nat))))]) (fun _ => [(4, (24, [e0, e0]))]) (fun _ => []) (fun i => i ≤ L.length) (fun i => L.length - i) 0 (Nat.zero_le _) ?_ ?_
        · simp (maxSteps := 10000000) only [isE_nil, is_cons, bo_p, bo_box, bo_orow, bo_rowp, any_cons', all_cons', all_nil', Bool.true_or, Bool.or_true, ↓sx, sx, ↓reduceIte, Nat.reduceEqDiff, Nat.reduceBeqDiff]
          rw [show sqSum [] = 0 from rfl, rtP_0]
          exact ⟨rfl, rfl, rfl, rfl⟩
        · intro i hi
          have hall : ∀ x ∈ L.take i, isRat x = true ∧ x.length ≤ 40 := fun x hx => ⟨g1 x (by simpa using List.mem_of_mem_take hx), hs x (List.mem_of_mem_take hx)⟩
          have sz := sqSum_sz _ hall
          have lt8 : (L.take i).length ≤ 8 := by rw [List.length_take]; omega
          by_cases hil : i < L.length
          · have e1 : decide ((i : Int) < (((k + 1) : Nat) : Int)) = true := by simp; omega
            have hm := getD_mem hil
            have hr := g1 (L.getD i []) (by simpa using hm)
            have hz1 := hs _ hm
            have zx : Sz 6 (ratOf (L.getD i [])) := Sz.of hr (k := 5) (by omega)
            have zxx := zx.mul zx
            have m1 := rop_q rmul_n (ratOf (L.getD i [])) (ratOf (L.getD i [])) (zx.mono (by omega)) (zx.mono (by omega))
            have m2 := rop_q radd_n (sqSum (L.take i)) (ratOf (L.getD i []) * ratOf (L.getD i [])) (sz.mono (by omega)) (zxx.mono (by omega))
            rw [rtP_ratOf hr] at m1
            rw [← sqSum_snoc, ← take_snocD hil] at m2
            simp (maxSteps := 10000000) only [↓sx, sx, ↓ty, ↓reduceIte, Nat.reduceEqDiff, Nat.reduceBeqDiff, Nat.reduceAdd, Nat.reduceLeDiff, Nat.reduceLT, Nat.reduceMul, Nat.reduceSub, Int.reduceEq, Int.reduceBNe, Int.reduceBEq, ne_eq, not_false_eq_true, pc, ls, bs, and_true, true_and, and_self, Nat.reduceAdd, Nat.le_refl, leafP, pi, e1]
            refine ⟨⟨by omega, by omega, by unfold strsP; simp; omega⟩, ?_⟩
            rw [strs_get hil]
            simp (maxSteps := 10000000) only [↓sx, sx, ↓ty, ↓reduceIte, Nat.reduceEqDiff, Nat.reduceBeqDiff, Nat.reduceAdd, Nat.reduceLeDiff, Nat.reduceLT, Nat.reduceMul, Nat.reduceSub, Int.reduceEq, Int.reduceBNe, Int.reduceBEq, ne_eq, not_false_eq_true, pc, ls, bs, and_true, true_and, and_self, Nat.reduceAdd, Nat.le_refl, leafP, pi]
            refine CallT.mk (t := ⟨⟩) m1 ?_
            simp (maxSteps := 10000000) only [↓sx, sx, ↓ty, ↓reduceIte, Nat.reduceEqDiff, Nat.reduceBeqDiff, Nat.reduceAdd, Nat.reduceLeDiff, Nat.reduceLT, Nat.reduceMul, Nat.reduceSub, Int.reduceEq, Int.reduceBNe, Int.reduceBEq, ne_eq, not_false_eq_true, pc, ls, bs, and_true, true_and, and_self, Nat.reduceAdd, Nat.le_refl, leafP, pi]
            refine CallT.mk (t := ⟨⟩) m2 ?_
            simp (maxSteps := 10000000) only [↓sx, sx, ↓ty, ↓reduceIte, Nat.reduceEqDiff, Nat.reduceBeqDiff, Nat.reduceAdd, Nat.reduceLeDiff, Nat.reduceLT, Nat.reduceMul, Nat.reduceSub, Int.reduceEq, Int.reduceBNe, Int.reduceBEq, ne_eq, not_false_eq_true, pc, ls, bs, and_true, true_and, and_self, Nat.reduceAdd, Nat.le_refl, leafP, pi]
            refine NextK.mk (i + 1) (by omega) (by omega) ?_
            simp (maxSteps := 10000000) only [isE_nil, is_cons, bo_p, bo_box, bo_orow, bo_rowp, any_cons', all_cons', all_nil', Bool.true_or, Bool.or_true, ↓sx, sx, ↓reduceIte, Nat.reduceEqDiff, Nat.reduceBeqDiff]
            rw [i64_id (by omega) (by omega)]
            rfl
          · obtain rfl : i = L.length := by omega
            have e1 : decide (((L.length : Nat) : Int) < (((k + 1) : Nat) : Int)) = false := by first | (simp; done) | (simp; omega)
            rw [List.take_length] at sz
            rw [List.take_length]
            have en := encl_n (sqSum L) n (sz.mono (by omega)) (sqSum_nn L) g3 g4
            simp (maxSteps := 10000000) only [↓sx, sx, ↓ty, ↓reduceIte, Nat.reduceEqDiff, Nat.reduceBeqDiff, Nat.reduceAdd, Nat.reduceLeDiff, Nat.reduceLT, Nat.reduceMul, Nat.reduceSub, Int.reduceEq, Int.reduceBNe, Int.reduceBEq, ne_eq, not_false_eq_true, pc, ls, bs, and_true, true_and, and_self, Nat.reduceAdd, Nat.le_refl, leafP, pi, e1]
            refine CallT.mk (t := ⟨⟩) en ?_
            simp (maxSteps := 10000000) only [↓sx, sx, ↓ty, ↓reduceIte, Nat.reduceEqDiff, Nat.reduceBeqDiff, Nat.reduceAdd, Nat.reduceLeDiff, Nat.reduceLT, Nat.reduceMul, Nat.reduceSub, Int.reduceEq, Int.reduceBNe, Int.reduceBEq, ne_eq, not_false_eq_true, pc, ls, bs, and_true, true_and, and_self, Nat.reduceAdd, Nat.le_refl, leafP, pi]
            rw [if_pos he]
      · rw [if_neg he]
        have e0' : (checkI L [] n != 0) = true := by simp [he]
        simp (maxSteps := 10000000) only [↓sx, sx, ↓ty, ↓reduceIte, Nat.reduceEqDiff, Nat.reduceBeqDiff, Nat.reduceAdd, Nat.reduceLeDiff, Nat.reduceLT, Nat.reduceMul, Nat.reduceSub, Int.reduceEq, Int.reduceBNe, Int.reduceBEq, ne_eq, not_false_eq_true, pc, ls, bs, and_true, true_and, and_self, Nat.reduceAdd, Nat.le_refl, leafP, pi, e0']
end Go.Proofs.YthhefojkkgjcfaaGreatDoor.S
namespace Gb
open Go Go.RowKit Go.Sx
theorem encl_iff {x : Rat} {n : Int} {k : Nat} (h1 : 1 ≤ n) : ((k : Rat) / n) * ((k : Rat) / n) = x ↔ ((k : Nat) : Rat) * (k : Nat) = x * (n * n) := by
  have n0 : (n : Rat) ≠ 0 := by rw [ne_eq, Rat.intCast_eq_zero_iff]; omega
  have hq : ((k : Rat) / n) * n = k := Rat.div_mul_cancel n0
  generalize (k : Rat) / n = q at *
  rw [← hq]
  constructor
  · intro h; rw [← h]; grind
  · intro h
    have h2 : (q * q - x) * ((n : Rat) * n) = 0 := by grind
    rcases Rat.mul_eq_zero.1 h2 with h3 | h3
    · grind
    · rcases Rat.mul_eq_zero.1 h3 with h4 | h4 <;> exact absurd h4 n0
theorem loQ_div (x : Rat) (n : Int) : loQ x n = ((rtQ x n : Nat) : Rat) / n := by
  unfold loQ; rw [Rat.divInt_eq_div]; rfl
theorem hiQ_lo (x : Rat) {n : Int} (h1 : 1 ≤ n) : hiQ x n = if loQ x n * loQ x n = x then loQ x n else loQ x n + 1 / (n : Rat) := by
  unfold hiQ
  rw [loQ_div]
  by_cases h : ((rtQ x n : Nat) : Rat) * (rtQ x n : Nat) = x * (n * n)
  · rw [if_pos h, if_pos ((encl_iff h1).2 h)]
  · rw [if_neg h, if_neg (fun h2 => h ((encl_iff h1).1 h2)), Rat.divInt_eq_div]
    rw [show (((rtQ x n : Nat) : Int) + 1 : Int) = (((rtQ x n + 1 : Nat)) : Int) by push_cast; rfl]
    rw [Rat.div_def, Rat.div_def, Rat.div_def, Rat.intCast_natCast, Rat.natCast_add]
    grind
end Gb
namespace Go.Proofs.YthhefojkkgjcfaaGreatDoor.S
open Go Go.Sx Go.RowKit Gb Go.Shelf
end Go.Proofs.YthhefojkkgjcfaaGreatDoor.S
namespace Gb
open Go Go.RowKit Go.Sx
end Gb
namespace Go.Proofs.YthhefojkkgjcfaaGreatDoor.S
open Go Go.Sx Go.RowKit Gb Go.Shelf
end Go.Proofs.YthhefojkkgjcfaaGreatDoor.S
namespace Gb
open Go Go.RowKit Go.Sx
theorem check_onen (l : List UInt8) (n : Int) : checkI [] [l] n = if isRat l then (if ratOf l < 0 then 2 else if n < 1 ∨ n > 1000000000 then 2 else 0) else 1 := by
  unfold checkI; simp
end Gb
namespace Go.Proofs.YthhefojkkgjcfaaGreatDoor.S
open Go Go.Sx Go.RowKit Gb Go.Shelf
end Go.Proofs.YthhefojkkgjcfaaGreatDoor.S
namespace Gb
open Go Go.RowKit Go.Sx
theorem sumI_nt (s : Int) (x : Rat) (t : Int) (y : Rat) (hs : s = -1 ∨ s = 0 ∨ s = 1) (ht : t = -1 ∨ t = 0 ∨ t = 1) : sumI s x t y = if s = 0 ∨ t = 0 ∨ s = t then (if s = 0 then t else s) else s * (x - y).num.sign := by
  unfold sumI
  rcases hs with rfl | rfl | rfl <;> rcases ht with rfl | rfl | rfl <;> simp
end Gb
namespace Go.Proofs.YthhefojkkgjcfaaGreatDoor.S
open Go Go.Sx Go.RowKit Gb Go.Shelf
end Go.Proofs.YthhefojkkgjcfaaGreatDoor.S
namespace Gb
open Go Go.RowKit Go.Sx
end Gb
namespace Go.Proofs.YthhefojkkgjcfaaGreatDoor.S
open Go Go.Sx Go.RowKit Gb Go.Shelf
end Go.Proofs.YthhefojkkgjcfaaGreatDoor.S
namespace Gb
open Go Go.RowKit Go.Sx
theorem rat_tri (x y : Rat) : x < y ∨ x = y ∨ y < x := by grind
theorem num_sign_pos {x : Rat} (h : 0 < x) : x.num.sign = 1 := by
  rcases sgn3 x with h1 | h1 | h1
  · have := (sign_lt0 x).1 (by omega); grind
  · have := Rat.num_eq_zero.1 (Int.sign_eq_zero_iff_zero.1 h1); grind
  · exact h1
theorem num_sign_neg {x : Rat} (h : x < 0) : x.num.sign = -1 := by
  have := (sign_lt0 x).2 h
  rcases sgn3 x with h1 | h1 | h1 <;> omega
theorem sign_cases (x : Rat) : (x.num.sign = -1 ∧ x < 0) ∨ (x.num.sign = 0 ∧ x = 0) ∨ (x.num.sign = 1 ∧ 0 < x) := by
  rcases sgn3 x with h | h | h
  · exact .inl ⟨h, (sign_lt0 x).1 (by omega)⟩
  · exact .inr (.inl ⟨h, Rat.num_eq_zero.1 (Int.sign_eq_zero_iff_zero.1 h)⟩)
  · refine .inr (.inr ⟨h, ?_⟩)
    rcases rat_tri x 0 with g | g | g
    · rw [num_sign_neg g] at h; omega
    · subst g; exact absurd h (by decide)
    · exact g
end Gb
namespace Go.Proofs.YthhefojkkgjcfaaGreatDoor.S
open Go Go.Sx Go.RowKit Gb Go.Shelf
end Go.Proofs.YthhefojkkgjcfaaGreatDoor.S
namespace Gb
open Go Go.RowKit Go.Sx
def idx {α : Type} (f : α → Bool) (l : List α) : Int := match l.findIdx? f with | some i => (i : Nat) | none => -1
theorem idx_any {α : Type} (f : α → Bool) (l : List α) : decide (idx f l ≥ 0) = l.any f := by
  unfold idx
  cases h : l.findIdx? f with
  | none =>
    rw [List.findIdx?_eq_none_iff] at h
    have : l.any f = false := by rw [List.any_eq_false]; intro x hx; simp [h x hx]
    rw [this]; rfl
  | some i =>
    have h2 : l.any f = true := by
      obtain ⟨h1, h2, _⟩ := List.findIdx?_eq_some_iff_getElem.1 h
      rw [List.any_eq_true]
      exact ⟨_, List.getElem_mem h1, h2⟩
    rw [h2]
    simp
theorem idx_at {α : Type} (f : α → Bool) (l : List α) (i : Nat) (x : α) (hx : l[i]? = some x) (h : ∀ y ∈ l.take i, f y = false) (hf : f x = true) : idx f l = i := by
  unfold idx
  obtain ⟨hi, rfl⟩ := List.getElem?_eq_some_iff.1 hx
  have : l.findIdx? f = some i := by
    rw [List.findIdx?_eq_some_iff_getElem]
    refine ⟨hi, hf, fun j hj => ?_⟩
    have := h l[j] (List.mem_take_iff_getElem.2 ⟨j, by omega, rfl⟩)
    simp [this]
  rw [this]
theorem idx_none {α : Type} (f : α → Bool) (l : List α) (h : ∀ y ∈ l, f y = false) : idx f l = -1 := by
  unfold idx
  have : l.findIdx? f = none := by rw [List.findIdx?_eq_none_iff]; exact h
  rw [this]
def texts (l : List (List UInt8)) : List PV := l.map strP
def longB (a : List UInt8) : Bool := decide (40 < a.length)
theorem take_snocA {α : Type} {l : List α} {i : Nat} {x : α} (hx : l[i]? = some x) : l.take (i + 1) = l.take i ++ [x] := by
  rw [List.take_add_one, hx]; rfl
end Gb
namespace Go.Proofs.YthhefojkkgjcfaaGreatDoor.S
open Go Go.Sx Go.RowKit Gb Go.Shelf
set_option maxRecDepth 100000 in
set_option maxHeartbeats 4000000 in
theorem idxT_n (g : FuncId) (f : List UInt8 → Bool) (l : List (List UInt8)) (hl : l.length ≤ 9223372036854775807) (hf : ∀ a ∈ l, Meets Tryz.prog Gd g [strP a] (.val (.bool (f a)))) :
    Meets Tryz.prog Gd 75 [.sl l.length (texts l), .clo g [] []] (iP (idx f l)) := by
  refine meets_of_vc (Y := {}) (N := 19) (rs := [.tmp 4]) mix tk gd Tryz.func75 rfl (by kernel_rfl) rfl rfl (by simp) (by kernel_rfl) ?_
  simp (maxSteps := 10000000) only [↓sx, sx, ↓ty, ↓reduceIte, Nat.reduceEqDiff, Nat.reduceBeqDiff, Nat.reduceAdd, Nat.reduceLeDiff, Nat.reduceLT, Nat.reduceMul, Nat.reduceSub, Int.reduceEq, Int.reduceBNe, Int.reduceBEq, ne_eq, not_false_eq_true, pc, ls, bs, and_true, true_and, and_self, Nat.reduceAdd, Nat.le_refl, leafP]
  refine loopK_of (fun i : Nat => [(0, .p (.sl l.length (texts l))), (1, .p (.clo g [] [])), (7, .p (.val (.int .i64 (l.length : Nat)))), (8, .p (.val (.int .i64 (i : Nat))))]) (fun _ => []) (fun _ => []) (fun i => i ≤ l.length ∧ ∀ y ∈ l.take i, f y = false) (fun i => l.length - i) 0 ⟨Nat.zero_le _, by simp⟩ ?_ ?_
  · simp (maxSteps := 10000000) only [isE_nil, is_cons, bo_p, bo_box, bo_orow, bo_rowp, any_cons', all_cons', all_nil', Bool.true_or, Bool.or_true, ↓sx, sx, ↓reduceIte, Nat.reduceEqDiff, Nat.reduceBeqDiff]
    try trivial
  · rintro i ⟨hi, hv⟩
    by_cases hil : i < l.length
    · have e1 : decide ((i : Int) < (l.length : Int)) = true := by simp; omega
      obtain ⟨a, ha⟩ : ∃ a, l[i]? = some a := ⟨l[i], List.getElem?_eq_getElem hil⟩
      have hm : a ∈ l := List.mem_of_getElem? ha
      have hd : (texts l)[i]? = some (strP a) := by unfold texts; rw [List.getElem?_map, ha]; rfl
      have hn : (texts l).length = l.length := by unfold texts; simp
      simp (maxSteps := 10000000) only [↓sx, sx, ↓ty, ↓reduceIte, Nat.reduceEqDiff, Nat.reduceBeqDiff, Nat.reduceAdd, Nat.reduceLeDiff, Nat.reduceLT, Nat.reduceMul, Nat.reduceSub, Int.reduceEq, Int.reduceBNe, Int.reduceBEq, ne_eq, not_false_eq_true, pc, ls, bs, and_true, true_and, and_self, Nat.reduceAdd, Nat.le_refl, leafP, e1, hd, hn]
      refine ⟨⟨by omega, hil⟩, ?_⟩
      refine CallT.mk (hf a hm) ?_
      cases hfa : f a with
      | true =>
        simp (maxSteps := 10000000) only [↓sx, sx, ↓ty, ↓reduceIte, Nat.reduceEqDiff, Nat.reduceBeqDiff, Nat.reduceAdd, Nat.reduceLeDiff, Nat.reduceLT, Nat.reduceMul, Nat.reduceSub, Int.reduceEq, Int.reduceBNe, Int.reduceBEq, ne_eq, not_false_eq_true, pc, ls, bs, and_true, true_and, and_self, Nat.reduceAdd, Nat.le_refl, leafP]
        rw [idx_at f l i a ha hv hfa]
      | false =>
        simp (maxSteps := 10000000) only [↓sx, sx, ↓ty, ↓reduceIte, Nat.reduceEqDiff, Nat.reduceBeqDiff, Nat.reduceAdd, Nat.reduceLeDiff, Nat.reduceLT, Nat.reduceMul, Nat.reduceSub, Int.reduceEq, Int.reduceBNe, Int.reduceBEq, ne_eq, not_false_eq_true, pc, ls, bs, and_true, true_and, and_self, Nat.reduceAdd, Nat.le_refl, leafP]
        refine NextK.mk (i + 1) (by omega) ⟨by omega, ?_⟩ ?_
        · intro y hy
          rw [take_snocA ha] at hy
          rcases List.mem_append.1 hy with hy | hy
          · exact hv y hy
          · rw [List.mem_singleton] at hy; rw [hy]; exact hfa
        · simp (maxSteps := 10000000) only [isE_nil, is_cons, bo_p, bo_box, bo_orow, bo_rowp, any_cons', all_cons', all_nil', Bool.true_or, Bool.or_true, ↓sx, sx, ↓reduceIte, Nat.reduceEqDiff, Nat.reduceBeqDiff]
          rw [i64_id (by omega) (by omega)]
          try rfl
    · obtain rfl : i = l.length := by omega
      rw [List.take_length] at hv
      have e1 : decide ((l.length : Int) < (l.length : Int)) = false := by simp
      simp (maxSteps := 10000000) only [↓sx, sx, ↓ty, ↓reduceIte, Nat.reduceEqDiff, Nat.reduceBeqDiff, Nat.reduceAdd, Nat.reduceLeDiff, Nat.reduceLT, Nat.reduceMul, Nat.reduceSub, Int.reduceEq, Int.reduceBNe, Int.reduceBEq, ne_eq, not_false_eq_true, pc, ls, bs, and_true, true_and, and_self, Nat.reduceAdd, Nat.le_refl, leafP, e1]
      rw [idx_none f l hv]
set_option maxRecDepth 100000 in
theorem anyT_n (g : FuncId) (f : List UInt8 → Bool) (l : List (List UInt8)) (hl : l.length ≤ 9223372036854775807) (hf : ∀ a ∈ l, Meets Tryz.prog Gd g [strP a] (.val (.bool (f a)))) :
    Meets Tryz.prog Gd 36 [.sl l.length (texts l), .clo g [] []] (.val (.bool (l.any f))) := by
  refine meets_of_vc (Y := {}) (N := 9) (rs := [.tmp 4]) mix tk gd Tryz.func36 rfl (by kernel_rfl) rfl rfl (by simp) (by kernel_rfl) ?_
  simp (maxSteps := 10000000) only [↓sx, sx, ↓ty, ↓reduceIte, Nat.reduceEqDiff, Nat.reduceBeqDiff, Nat.reduceAdd, Nat.reduceLeDiff, Nat.reduceLT, Nat.reduceMul, Nat.reduceSub, Int.reduceEq, Int.reduceBNe, Int.reduceBEq, ne_eq, not_false_eq_true, pc, ls, bs, and_true, true_and, and_self, Nat.reduceAdd, Nat.le_refl, leafP]
  refine CallT.mk (idxT_n g f l hl hf) ?_
  simp (maxSteps := 10000000) only [↓sx, sx, ↓ty, ↓reduceIte, Nat.reduceEqDiff, Nat.reduceBeqDiff, Nat.reduceAdd, Nat.reduceLeDiff, Nat.reduceLT, Nat.reduceMul, Nat.reduceSub, Int.reduceEq, Int.reduceBNe, Int.reduceBEq, ne_eq, not_false_eq_true, pc, ls, bs, and_true, true_and, and_self, Nat.reduceAdd, Nat.le_refl, leafP, idx_any]
end Go.Proofs.YthhefojkkgjcfaaGreatDoor.S
namespace Go.Sx
open Go Go.RowKit Go.ChangeShapes Go.WideShapes Go.Shelf Go.Proofs
inductive Sh where
  | str
  | bool
  | int (k : IntKind)
  | agg (l : List Sh)
  | sl (e : Sh)
mutual
def shB (P : Program) : TypeId → Sh → Bool
  | t, .str => match P.underlying t with | some .string => true | _ => false
  | t, .bool => match P.underlying t with | some .bool => true | _ => false
  | t, .int k => match P.underlying t with | some (.int k') => decide (k' = k) | _ => false
  | t, .agg l => match P.underlying t with | some (.struct fs) => shsB P 0 (P.cellsOf t) (fs.toList.map fun f => (f.offset, f.type)) l | _ => false
  | t, .sl e => match P.underlying t with | some (.slice te) => decide (0 < P.cellsOf te) && shB P te e | _ => false
def shsB (P : Program) : Nat → Nat → List (Nat × TypeId) → List Sh → Bool
  | o, n, [], [] => decide (o = n)
  | o, n, f :: fs, s :: l => decide (f.1 = o) && shB P f.2 s && shsB P (o + P.cellsOf f.2) n fs l
  | _, _, _, _ => false
end
mutual
def Fit : Sh → List PV → Prop
  | .str, cs => ∃ s : ByteArray, cs = [.val (.string s)] ∧ s.size ≤ maxLen
  | .bool, cs => ∃ b, cs = [.val (.bool b)]
  | .int k, cs => ∃ n, cs = [.val (.int k n)] ∧ (Lit.int k n).wf = true
  | .agg l, cs => Fits l cs
  | .sl e, cs => ∃ ls : List (List PV), cs = [.sl ls.length ls.flatten] ∧ ls.length ≤ maxLen ∧ ∀ x ∈ ls, Fit e x
def Fits : List Sh → List PV → Prop
  | [], cs => cs = []
  | s :: l, cs => ∃ a b, cs = a ++ b ∧ Fit s a ∧ Fits l b
end
def Fit1 : Sh → PV → Prop
  | .agg l, x => ∃ cs, x = .agg cs ∧ Fits l cs
  | s, x => Fit s [x]
def FitA : List Sh → List PV → Prop
  | [], xs => xs = []
  | s :: l, xs => ∃ y ys, xs = y :: ys ∧ Fit1 s y ∧ FitA l ys
section
variable {H : Type} {enc : TypeId × Value → H} {P : Program} {W : World} {sp : Nat → Bool} {held : Bool}
theorem cell_lt {a : Addr} {v : Value} (h : W.cell? a = some v) : a.block < W.heap.size ∧ a.spot = none := by
  unfold World.cell? at h
  split at h
  · rename_i c _ _ hc
    refine ⟨(Array.getElem?_eq_some_iff.1 hc).1, ?_⟩
    split at h
    · cases h
    · rename_i hs
      cases hq : a.spot with
      | none => rfl
      | some x => rw [hq] at hs; simp at hs
  · cases h
theorem RepL.one {B : Nat → Prop} {x : PV} {v : Value} (h : RepP B W x v) : RepL B W [x] [v] := by
  simp only [RepL]
  exact ⟨v, [], rfl, h, rfl⟩
theorem addr_add (a : Addr) (i j : Nat) : (a.add i).add j = a.add (i + j) := by
  by_cases h1 : i = 0
  · subst h1; simp [Addr.add]
  · by_cases h2 : j = 0
    · subst h2; simp [Addr.add]
    · simp [Addr.add, h1, h2, show ¬ i + j = 0 by omega, Nat.add_assoc]
theorem rows_open {te : TypeId} {n : Nat} {a : Addr} {len : Nat} {elems : List (DataW H × List MemPlace)} (R : List PV → Prop) (hlen : elems.length = len)
    (hel : ∀ i, i < len → (W.cells? 0 (a.add (i * P.cellsOf te)) (P.cellsOf te)).bind (DataW.trod enc P W 0 sp held n te) = elems[i]?)
    (ho : ∀ cs x, DataW.trod enc P W 0 sp held n te cs = some x → ∃ pcs, RepL (· < W.heap.size) W pcs cs ∧ R pcs) :
    ∀ m, m ≤ len → ∃ (ls : List (List PV)) (vs : List Value), ls.length = m ∧ vs.length = m * P.cellsOf te ∧ RepL (· < W.heap.size) W ls.flatten vs ∧ (∀ j v, vs[j]? = some v → W.cell? (a.add j) = some v) ∧ ∀ x ∈ ls, R x
  | 0, _ => ⟨[], [], rfl, by simp, by simp [RepL], by simp, by simp⟩
  | m + 1, hm => by
    obtain ⟨ls, vs, h1, h2, h3, h4, h5⟩ := rows_open R hlen hel ho m (by omega)
    have hi := hel m (by omega)
    rw [List.getElem?_eq_getElem (show m < elems.length by omega)] at hi
    obtain ⟨cs, hcs, ht⟩ := Option.bind_eq_some_iff.1 hi
    obtain ⟨_, hcl, hcc⟩ := World.cells?_some hcs
    obtain ⟨pcs, hr, hR⟩ := ho cs _ ht
    refine ⟨ls ++ [pcs], vs ++ cs, by simp [h1], by rw [List.length_append, h2, hcl, Nat.succ_mul], ?_, ?_, ?_⟩
    · rw [List.flatten_append]
      exact RepL.append h3 (by simpa using hr)
    · intro j v hj
      by_cases hjl : j < vs.length
      · rw [List.getElem?_append_left hjl] at hj
        exact h4 j v hj
      · rw [List.getElem?_append_right (by omega)] at hj
        have hjc : j - vs.length < cs.length := (List.getElem?_eq_some_iff.1 hj).1
        have := hcc (j - vs.length) (by omega)
        rw [← hj, ← this]
        congr 1
        rw [addr_add, h2, show m * P.cellsOf te + (j - m * P.cellsOf te) = j by rw [h2] at hjl; omega]
    · intro x hx
      rcases List.mem_append.1 hx with hx | hx
      · exact h5 x hx
      · rw [List.mem_singleton] at hx
        rw [hx]; exact hR
mutual
theorem openS : ∀ (s : Sh) (t : TypeId) (fuel : Nat) (cs : List Value) (x : DataW H × List MemPlace), shB P t s = true → DataW.trod enc P W 0 sp held fuel t cs = some x → ∃ pcs, RepL (· < W.heap.size) W pcs cs ∧ Fit s pcs
  | .str, t, fuel, cs, x, hs, h => by
    unfold shB at hs
    split at hs
    · rename_i hu
      obtain ⟨s, rfl, rfl, hm⟩ := DataW.trod_string hu h
      exact ⟨[.val (.string s)], RepL.one (by simp [RepP]), by simp only [Fit]; exact ⟨s, rfl, hm⟩⟩
    · cases hs
  | .bool, t, fuel, cs, x, hs, h => by
    unfold shB at hs
    split at hs
    · rename_i hu
      obtain ⟨b, rfl, rfl⟩ := DataW.trod_bool hu h
      exact ⟨[.val (.bool b)], RepL.one (by simp [RepP]), by simp only [Fit]; exact ⟨b, rfl⟩⟩
    · cases hs
  | .int k, t, fuel, cs, x, hs, h => by
    unfold shB at hs
    split at hs
    · rename_i k' hu
      obtain rfl := of_decide_eq_true hs
      obtain ⟨n, rfl, rfl, hw⟩ := DataW.trod_int hu h
      exact ⟨[.val (.int k' n)], RepL.one (by simp [RepP]), by simp only [Fit]; exact ⟨n, rfl, hw⟩⟩
    · cases hs
  | .agg l, t, fuel, cs, x, hs, h => by
    unfold shB at hs
    split at hs
    · rename_i fs hu
      obtain ⟨xs, n, _, _, hl, hlen, hf⟩ := DataW.trod_struct hu h
      have := openSs l (fs.toList.map fun f => (f.offset, f.type)) 0 (P.cellsOf t) n cs hs hl fun i f hi => by
        rw [List.getElem?_map, Option.map_eq_some_iff] at hi
        obtain ⟨g, hg, rfl⟩ := hi
        rw [Array.getElem?_toList] at hg
        have h2 := hf i g hg
        have hi : i < fs.size := (Array.getElem?_eq_some_iff.1 hg).1
        rw [List.getElem?_eq_getElem (by omega)] at h2
        exact ⟨_, h2⟩
      simpa only [Fit, List.drop_zero] using this
    · cases hs
  | .sl e, t, fuel, cs, x, hs, h => by
    unfold shB at hs
    split at hs
    · rename_i te hu
      rw [Bool.and_eq_true, decide_eq_true_eq] at hs
      simp only [Fit]
      rcases DataW.trod_slice hu h with ⟨rfl, _⟩ | ⟨a, len, cap, elems, rest, n, _, rfl, _, _, hl, hm, hlen, hel, _⟩
      · refine ⟨[.sl 0 []], RepL.one ?_, [], rfl, by simp, by simp⟩
        simp only [RepP]
        exact ⟨none, 0, rfl, Nat.le_refl _, .inl rfl, .inl trivial⟩
      · obtain ⟨ls, vs, h1, h2, h3, h4, h5⟩ := rows_open (Fit e) hlen hel (fun cs x ht => openS e te n cs x hs.2 ht) len (Nat.le_refl _)
        refine ⟨[.sl ls.length ls.flatten], RepL.one ?_, ls, rfl, by omega, h5⟩
        simp only [RepP]
        refine ⟨some a, cap, by rw [h1], by omega, .inr (by simp), ?_⟩
        cases vs with
        | nil =>
          left
          have := h3.length
          exact List.eq_nil_of_length_eq_zero this.symm
        | cons v vs =>
          right
          have h0 := h4 0 v rfl
          obtain ⟨q1, q2⟩ := cell_lt h0
          obtain ⟨b, o, sp⟩ := a
          simp only [Addr.add] at q1 q2
          subst q2
          refine ⟨b, o, rfl, q1, RepC.of_vals h3 fun j v hj => ?_⟩
          have := h4 j v hj
          have e : (⟨b, o, none⟩ : Addr).add j = ⟨b, o + j, none⟩ := by
            unfold Addr.add
            split
            · subst_vars; rfl
            · rfl
          rwa [e] at this
    · cases hs
theorem openSs : ∀ (l : List Sh) (fs : List (Nat × TypeId)) (o n fuel : Nat) (cs : List Value), shsB P o n fs l = true → cs.length = n → (∀ (i : Nat) f, fs[i]? = some f → ∃ y, DataW.trod enc P W 0 sp held fuel f.2 ((cs.drop f.1).take (P.cellsOf f.2)) = some y) →
    ∃ pcs, RepL (· < W.heap.size) W pcs (cs.drop o) ∧ Fits l pcs
  | [], [], o, n, fuel, cs, hs, hn, _ => by
    simp only [shsB, decide_eq_true_eq] at hs
    refine ⟨[], ?_, by simp [Fits]⟩
    rw [List.drop_eq_nil_of_le (by omega)]
    simp [RepL]
  | s :: l, f :: fs, o, n, fuel, cs, hs, hn, hf => by
    simp only [shsB, Bool.and_eq_true, decide_eq_true_eq] at hs
    obtain ⟨⟨rfl, h2⟩, h3⟩ := hs
    obtain ⟨y, hy⟩ := hf 0 f rfl
    obtain ⟨p1, r1, f1⟩ := openS s f.2 fuel _ y h2 hy
    obtain ⟨p2, r2, f2⟩ := openSs l fs (f.1 + P.cellsOf f.2) n fuel cs h3 hn fun i g hg => hf (i + 1) g (by simpa using hg)
    refine ⟨p1 ++ p2, ?_, by simp only [Fits]; exact ⟨p1, p2, rfl, f1, f2⟩⟩
    have := RepL.append r1 r2
    rwa [← List.drop_drop, List.take_append_drop] at this
  | [], _ :: _, o, n, fuel, cs, hs, _, _ => by simp [shsB] at hs
  | _ :: _, [], o, n, fuel, cs, hs, _, _ => by simp [shsB] at hs
end
theorem openV {base : Nat} (s : Sh) (t : TypeId) (v : Value) (d : DataW H) (ps : List MemPlace) (hs : shB P t s = true) (hok : Value.okWide P W .any base t v) (h : DataW.Trod enc P W 0 sp held t v d ps) :
    ∃ x, RepP (· < W.heap.size) W x v ∧ Fit1 s x := by
  obtain ⟨fuel, hv⟩ := h
  obtain ⟨pcs, hr, hf⟩ := openS s t fuel _ _ hs hv
  cases s with
  | agg l =>
    unfold shB at hs
    split at hs
    · rename_i fs hu
      simp only [Value.okWide, hu] at hok
      obtain ⟨cs, rfl, _, _⟩ := hok
      refine ⟨.agg pcs, ?_, pcs, rfl, by simpa only [Fit] using hf⟩
      simp only [RepP]
      exact ⟨cs.toList, rfl, hr⟩
    · cases hs
  | str =>
    simp only [Fit] at hf
    obtain ⟨s, rfl, hm⟩ := hf
    unfold shB at hs
    split at hs
    · rename_i hu
      simp only [RepL, RepP] at hr
      obtain ⟨y, ys, hc, rfl, rfl⟩ := hr
      have : v = .string s := by
        cases v <;> simp [Value.cells, Value.okWide, hu, Cell.okWide, Cell.ok] at hc hok ⊢
        exact hc
      subst this
      exact ⟨.val (.string s), by simp [RepP], by simp only [Fit1, Fit]; exact ⟨s, rfl, hm⟩⟩
    · cases hs
  | bool =>
    simp only [Fit] at hf
    obtain ⟨s, rfl⟩ := hf
    unfold shB at hs
    split at hs
    · rename_i hu
      simp only [RepL, RepP] at hr
      obtain ⟨y, ys, hc, rfl, rfl⟩ := hr
      have : v = .bool s := by
        cases v <;> simp [Value.cells, Value.okWide, hu, Cell.okWide, Cell.ok] at hc hok ⊢
        exact hc
      subst this
      exact ⟨.val (.bool s), by simp [RepP], by simp only [Fit1, Fit]; exact ⟨s, rfl⟩⟩
    · cases hs
  | int k =>
    simp only [Fit] at hf
    obtain ⟨s, rfl, hm⟩ := hf
    unfold shB at hs
    split at hs
    · rename_i k' hu
      simp only [RepL, RepP] at hr
      obtain ⟨y, ys, hc, rfl, rfl⟩ := hr
      have : v = .int k s := by
        cases v <;> simp [Value.cells, Value.okWide, hu, Cell.okWide, Cell.ok] at hc hok ⊢
        exact hc
      subst this
      exact ⟨.val (.int k s), by simp [RepP], by simp only [Fit1, Fit]; exact ⟨s, rfl, hm⟩⟩
    · cases hs
  | sl e =>
    unfold shB at hs
    split at hs
    · rename_i te hu
      have hf' := hf
      simp only [Fit] at hf
      obtain ⟨ls, rfl, hm, hx⟩ := hf
      simp only [RepL] at hr
      obtain ⟨y, ys, hc, hr, rfl⟩ := hr
      have : v = y := by
        cases v <;> simp [Value.cells, Value.okWide, hu, Cell.okWide, Cell.ok] at hc hok ⊢ <;> first | exact hc | skip
      subst this
      exact ⟨_, hr, by simp only [Fit1]; exact hf'⟩
    · cases hs
def shAB (P : Program) : List TypeId → List Sh → Bool
  | [], [] => true
  | t :: ts, s :: l => shB P t s && shAB P ts l
  | _, _ => false
theorem openA {base : Nat} : ∀ (l : List Sh) (ts : List TypeId) (vs : List Value) (ds : List (DataW H)) (ps : List MemPlace), shAB P ts l = true → (∀ (j : Nat) t v, ts[j]? = some t → vs[j]? = some v → Value.okWide P W .any base t v) → DataW.TrodAll enc P W 0 sp held ts vs ds ps →
    ∃ xs, RepL (· < W.heap.size) W xs vs ∧ FitA l xs
  | [], [], [], [], ps, _, _, _ => ⟨[], by simp [RepL], by simp [FitA]⟩
  | s :: l, t :: ts, v :: vs, d :: ds, ps, hs, hok, h => by
    simp only [shAB, Bool.and_eq_true] at hs
    obtain ⟨p, q, h1, h2, rfl⟩ := h
    obtain ⟨x, rx, fx⟩ := openV s t v d p hs.1 (hok 0 t v rfl rfl) h1
    obtain ⟨xs, rxs, fxs⟩ := openA l ts vs ds q hs.2 (fun j t v h1 h2 => hok (j + 1) t v (by simpa using h1) (by simpa using h2)) h2
    refine ⟨x :: xs, ?_, by simp only [FitA]; exact ⟨x, xs, rfl, fx, fxs⟩⟩
    simp only [RepL]
    exact ⟨v, vs, rfl, rx, rxs⟩
  | [], _ :: _, _, _, _, hs, _, _ => by simp [shAB] at hs
  | _ :: _, [], _, _, _, hs, _, _ => by simp [shAB] at hs
  | [], [], _ :: _, _, _, _, _, h => h.elim
  | [], [], [], _ :: _, _, _, _, h => h.elim
  | _ :: _, _ :: _, [], _, _, _, _, h => h.elim
  | _ :: _, _ :: _, _ :: _, [], _, _, _, h => h.elim
theorem below_trodAll (hl : laidOutB P = true) {W' : World} (hb : Below W.heap.size W W') : ∀ {ts : List TypeId} {vs : List Value} {ds : List (DataW H)} {ps : List MemPlace}, (ts.all fun t => P.readableRec t && decide (t < P.types.size)) = true →
    DataW.TrodAll enc P W 0 (fun _ => true) true ts vs ds ps → DataW.TrodAll enc P W' 0 (fun b => decide (b < W.heap.size)) true ts vs ds ps
  | [], [], [], _, _, h => h
  | t :: ts, v :: vs, d :: ds, ps, ht, h => by
    have hlt := DataW.TrodAll.lt h
    obtain ⟨p, q, h1, h2, rfl⟩ := h
    rw [List.all_cons, Bool.and_eq_true, Bool.and_eq_true, decide_eq_true_eq] at ht
    exact ⟨p, q, Below.trod hl ht.1.1 ht.1.2 h1 hb fun x hx => hlt x (List.mem_append_left _ hx), below_trodAll hl hb ht.2 h2, rfl⟩
  | [], _ :: _, _, _, _, h => h.elim
  | [], [], _ :: _, _, _, h => h.elim
  | _ :: _, [], _, _, _, h => h.elim
  | _ :: _, _ :: _, [], _, _, h => h.elim
theorem law_calls {G : World → Prop} {f : FuncId} {base : Nat} {l : List Sh} {ts : List TypeId} {vs : List Value} {ds : List (DataW H)} {ps : List MemPlace} (hs : shAB P ts l = true) (law : ∀ xs, FitA l xs → Meets P G f xs (.val (.bool true)))
    (hok : ∀ (j : Nat) t v, ts[j]? = some t → vs[j]? = some v → Value.okWide P W .any base t v) (h : DataW.TrodAll enc P W 0 sp held ts vs ds ps) (hG : G W) :
    Calls P f ⟨vs⟩ W fun e W' => e = .returned (.bool true) ∧ Below W.heap.size W W' := by
  obtain ⟨xs, hr, hf⟩ := openA l ts vs ds ps hs hok h
  refine ((law xs hf).calls _ vs W (fun b hb => hb) hr hG).mono fun e W' ⟨v, he, hv, hb⟩ => ?_
  simp only [RepP] at hv
  subst hv
  exact ⟨he, hb⟩
end
def CloneC (P : Program) (F el : TypeId) (sz : Nat) : Prop := ∀ (v : Value) (n : Nat) (us : List Value) (w : World), ((v = .slice none 0 0 ∧ n = 0 ∧ us = []) ∨ ∃ ad c, v = .slice (some ad) n c ∧ us.length = n * sz ∧ (∀ j u, us[j]? = some u → w.cell? (ad.add j) = some u)) → (∀ u ∈ us, u.oneCell' = true) → n ≤ 1000000 →
  Calls P F #[v] w fun e w' => ∃ x, e = .returned x ∧ Below w.heap.size w w' ∧ w'.ownsRow w.heap.size el sz x n us
theorem clone_args {B : Nat → Prop} {w : World} {n sz : Nat} {cs : List PV} {v : Value} (hv : RepP B w (.sl n cs) v) (hl : cs.length = n * sz) : ∃ us, RepL B w cs us ∧ ((v = .slice none 0 0 ∧ n = 0 ∧ us = []) ∨ ∃ ad c, v = .slice (some ad) n c ∧ us.length = n * sz ∧ (∀ j u, us[j]? = some u → w.cell? (ad.add j) = some u)) := by
  simp only [RepP] at hv
  obtain ⟨a, c, rfl, h1, h2, h3⟩ := hv
  cases a with
  | none =>
    have hc : c = 0 := by
      rcases h2 with h | h
      · exact h
      · exact absurd rfl h
    subst hc
    have hn : n = 0 := by omega
    subst hn
    have : cs = [] := List.eq_nil_of_length_eq_zero (by rw [hl]; simp)
    subst this
    exact ⟨[], by simp [RepL], .inl ⟨rfl, rfl, rfl⟩⟩
  | some ad =>
    rcases h3 with rfl | ⟨b, o, e, hb, hr⟩
    · exact ⟨[], by simp [RepL], .inr ⟨ad, c, rfl, by simpa using hl, by simp⟩⟩
    · cases e
      obtain ⟨us, hu, hc⟩ := repC_cells hr
      exact ⟨us, hu, .inr ⟨_, c, rfl, by rw [hu.length, hl], hc⟩⟩
theorem ownsRow_zero {w : World} {b : Nat} {el : TypeId} {sz n : Nat} {x : Value} {us : List Value} (h : w.ownsRow b el sz x n us) : w.ownsRow 0 el sz x n us ∧ ∀ g, x.ownBlock = some g → b ≤ g ∧ g < w.heap.size := by
  refine ⟨⟨h.1, ?_⟩, h.lt⟩
  rcases h.2 with h | ⟨g, cap, cur, h1, _, h2⟩
  · exact .inl h
  · exact .inr ⟨g, cap, cur, h1, Nat.zero_le _, h2⟩
theorem clone_r {P : Program} {G : World → Prop} {F el : TypeId} {sz : Nat} (he : Enters P F) (h : CloneC P F el sz) {n : Nat} {cs : List PV} (hl : cs.length = n * sz) (hf : cs.all leafP = true) (hn : n ≤ 1000000) : MeetsR P G F [.sl n cs] ⟨el, sz, n, cs, false⟩ := by
  refine ⟨he, fun B vs w hB hr hG => ?_⟩
  simp only [RepL] at hr
  obtain ⟨v, _, rfl, hv, rfl⟩ := hr
  obtain ⟨us, hu, hc⟩ := clone_args hv hl
  refine (h v n us w hc (leaf_one hu hf) hn).mono fun e w' ⟨x, h1, h2, h3⟩ => ?_
  obtain ⟨h4, h5⟩ := ownsRow_zero h3
  refine ⟨x, us, h1, h2, h4, RepL.mono (fun b hb => ?_) _ _ hu, fun g hg => (h5 g hg).1⟩
  have hb1 := hB b hb
  refine ⟨⟨.inl hb, Nat.lt_of_lt_of_le hb1 h2.size, fun e => ?_⟩, h2.block _ hb1⟩
  have := (h5 b e).1
  omega
theorem clone_m {P : Program} {G : World → Prop} {F el : TypeId} {sz : Nat} (he : Enters P F) (h : CloneC P F el sz) {n : Nat} {cs : List PV} (hl : cs.length = n * sz) (hf : cs.all leafP = true) (hn : n ≤ 1000000) : Meets P G F [.sl n cs] (.sl n cs) := by
  refine ⟨he, fun B vs w hB hr hG => ?_⟩
  simp only [RepL] at hr
  obtain ⟨v, _, rfl, hv, rfl⟩ := hr
  obtain ⟨us, hu, hc⟩ := clone_args hv hl
  refine (h v n us w hc (leaf_one hu hf) hn).mono fun e w' ⟨x, h1, h2, h3⟩ => ?_
  obtain ⟨h4, h5⟩ := ownsRow_zero h3
  refine ⟨x, h1, ownsRow_slice h4 (RepL.mono (fun b hb => ?_) _ _ hu) fun g hg => ?_, h2⟩
  · have hb1 := hB b hb
    exact ⟨⟨.inl hb, Nat.lt_of_lt_of_le hb1 h2.size⟩, h2.block _ hb1⟩
  · exact ⟨.inr (h5 g hg).1, (h5 g hg).2⟩
end Go.Sx
namespace Go.Proofs.YthhefojkkgjcfaaGreatDoor.S
open Go Go.Sx Go.RowKit Gb Go.Shelf
set_option maxRecDepth 100000 in
theorem long5a_n (a : List UInt8) : Meets Tryz.prog Gd 37 [strP a] (.val (.bool (longB a))) := by
  refine meets_of_vc (Y := {}) (N := 6) (rs := [.tmp 2]) mix tk gd Tryz.func37 rfl (by kernel_rfl) rfl rfl (by simp) (by kernel_rfl) ?_
  simp (maxSteps := 10000000) only [↓sx, sx, ↓ty, ↓reduceIte, Nat.reduceEqDiff, Nat.reduceBeqDiff, Nat.reduceAdd, Nat.reduceLeDiff, Nat.reduceLT, Nat.reduceMul, Nat.reduceSub, Int.reduceEq, Int.reduceBNe, Int.reduceBEq, ne_eq, not_false_eq_true, pc, ls, bs, and_true, true_and, and_self, Nat.reduceAdd, Nat.le_refl, leafP]
  have : decide ((a.length : Int) > 40) = longB a := by unfold longB; congr 1; apply propext; omega
  rw [this]
set_option maxRecDepth 100000 in
theorem long5_n (l : List (List UInt8)) (hl : l.length ≤ 9223372036854775807) : Meets Tryz.prog Gd 11 [.sl l.length (texts l)] (.val (.bool (l.any longB))) := by
  refine meets_of_vc (Y := {}) (N := 5) (rs := [.tmp 2]) mix tk gd Tryz.func11 rfl (by kernel_rfl) rfl rfl (by simp) (by kernel_rfl) ?_
  simp (maxSteps := 10000000) only [↓sx, sx, ↓ty, ↓reduceIte, Nat.reduceEqDiff, Nat.reduceBeqDiff, Nat.reduceAdd, Nat.reduceLeDiff, Nat.reduceLT, Nat.reduceMul, Nat.reduceSub, Int.reduceEq, Int.reduceBNe, Int.reduceBEq, ne_eq, not_false_eq_true, pc, ls, bs, and_true, true_and, and_self, Nat.reduceAdd, Nat.le_refl, leafP]
  refine CallT.mk (anyT_n 37 longB l hl fun a ha => long5a_n a) ?_
  simp (maxSteps := 10000000) only [↓sx, sx, ↓ty, ↓reduceIte, Nat.reduceEqDiff, Nat.reduceBeqDiff, Nat.reduceAdd, Nat.reduceLeDiff, Nat.reduceLT, Nat.reduceMul, Nat.reduceSub, Int.reduceEq, Int.reduceBNe, Int.reduceBEq, ne_eq, not_false_eq_true, pc, ls, bs, and_true, true_and, and_self, Nat.reduceAdd, Nat.le_refl, leafP]
end Go.Proofs.YthhefojkkgjcfaaGreatDoor.S
namespace Gb
open Go Go.RowKit Go.Sx
theorem la : (∀ (α : Type) (a : α) (l m : List α), List.append (a :: l) m = a :: List.append l m) ∧ (∀ (α : Type) (m : List α), List.append [] m = m) := ⟨fun _ _ _ _ => rfl, fun _ _ => rfl⟩
theorem dig1 (n : Nat) (h : n < 10) : Lib.decDigits n = [UInt8.ofNat (48 + n)] := by
  rw [Lib.decDigits, dif_pos h]
theorem iD_pos (n : Nat) : iD ((n : Nat) : Int) = Lib.decDigits n := iD_nat n
theorem iD_neg (n : Nat) (h : 0 < n) : iD (-(n : Int)) = 45 :: Lib.decDigits n := by
  unfold iD
  rw [if_pos (by omega), Int.natAbs_neg, Int.natAbs_natCast]
theorem rT_i {x : Rat} {z : Int} (h1 : x.num = z) (h2 : x.den = 1) : rT x = iD z := by unfold rT; rw [if_pos h2, h1]
theorem rT_f {x : Rat} {z : Int} {q : Nat} (h1 : x.num = z) (h2 : x.den = q) (h3 : q ≠ 1) : rT x = iD z ++ 47 :: Lib.decDigits q := by unfold rT; rw [if_neg (by rw [h2]; exact h3), h1, h2]
theorem t_m1 : rT (-1) = [45, 49] := (rT_i (z := -((1 : Nat) : Int)) (by decide +kernel) (by decide +kernel)).trans ((iD_neg 1 (by omega)).trans (congrArg (List.cons 45) (dig1 1 (by omega))))
theorem t_p2 : rT (2) = [50] := (rT_i (z := ((2 : Nat) : Int)) (by decide +kernel) (by decide +kernel)).trans ((iD_pos 2).trans (dig1 2 (by omega)))
theorem t_p3 : rT (3) = [51] := (rT_i (z := ((3 : Nat) : Int)) (by decide +kernel) (by decide +kernel)).trans ((iD_pos 3).trans (dig1 3 (by omega)))
theorem t_p4 : rT (4) = [52] := (rT_i (z := ((4 : Nat) : Int)) (by decide +kernel) (by decide +kernel)).trans ((iD_pos 4).trans (dig1 4 (by omega)))
theorem t_m2 : rT (-2) = [45, 50] := (rT_i (z := -((2 : Nat) : Int)) (by decide +kernel) (by decide +kernel)).trans ((iD_neg 2 (by omega)).trans (congrArg (List.cons 45) (dig1 2 (by omega))))
theorem t_p5 : rT (5) = [53] := (rT_i (z := ((5 : Nat) : Int)) (by decide +kernel) (by decide +kernel)).trans ((iD_pos 5).trans (dig1 5 (by omega)))
end Gb
namespace Go.Proofs.YthhefojkkgjcfaaGreatDoor.S
open Go Go.Sx Go.RowKit Gb Go.Shelf
end Go.Proofs.YthhefojkkgjcfaaGreatDoor.S
namespace Gb
open Go Go.RowKit Go.Sx
theorem ratOf_of {x : Rat} {l : List UInt8} (h : rT x = l) : isRat l = true ∧ ratOf l = x := by subst h; exact ⟨isRat_rT x, ratOf_rT x⟩
theorem rtQ_of {x : Rat} {n : Int} {k : Nat} (h : isRt (x * (n * n)).floor.toNat k) : rtQ x n = k := rt_eq h
theorem enc1 : loQ 2 10 = 7/5 ∧ hiQ 2 10 = 3/2 := by
  have h : rtQ 2 10 = 14 := rtQ_of (by unfold isRt; decide +kernel)
  unfold hiQ loQ; rw [h]; decide +kernel
theorem enc2 : loQ (9/4) 2 = 3/2 ∧ hiQ (9/4) 2 = 3/2 := by
  have h : rtQ (9/4) 2 = 3 := rtQ_of (by unfold isRt; decide +kernel)
  unfold hiQ loQ; rw [h]; decide +kernel
theorem enc3 : hiQ 9 10 = 3 := by
  have h : rtQ 9 10 = 30 := rtQ_of (by unfold isRt; decide +kernel)
  unfold hiQ loQ; rw [h]; decide +kernel
theorem enc4 : loQ 25 7 = 5 ∧ hiQ 25 7 = 5 := by
  have h : rtQ 25 7 = 35 := rtQ_of (by unfold isRt; decide +kernel)
  unfold hiQ loQ; rw [h]; decide +kernel
theorem sgn1 : signI 3 (-2) 2 = 1 := by decide +kernel
theorem cmp1 : compI 2 3 3 2 = -1 := by decide +kernel
theorem t_f75 : rT (7/5) = [55, 47, 53] := by
  rw [rT_f (z := ((7 : Nat) : Int)) (q := 5) (by decide +kernel) (by decide +kernel) (by decide +kernel), iD_pos, dig1 7 (by omega), dig1 5 (by omega)]; rfl
theorem t_f32 : rT (3/2) = [51, 47, 50] := by
  rw [rT_f (z := ((3 : Nat) : Int)) (q := 2) (by decide +kernel) (by decide +kernel) (by decide +kernel), iD_pos, dig1 3 (by omega), dig1 2 (by omega)]; rfl
theorem t_f94 : rT (9/4) = [57, 47, 52] := by
  rw [rT_f (z := ((9 : Nat) : Int)) (q := 4) (by decide +kernel) (by decide +kernel) (by decide +kernel), iD_pos, dig1 9 (by omega), dig1 4 (by omega)]; rfl
theorem t_p9 : rT (9) = [57] := (rT_i (z := ((9 : Nat) : Int)) (by decide +kernel) (by decide +kernel)).trans ((iD_pos 9).trans (dig1 9 (by omega)))
theorem sqrt_val {x a b : Rat} {l : List UInt8} {n : Int} (h : rT x = l) (h0 : ¬ x < 0) (hn : ¬ (n < 1 ∨ n > 1000000000)) (h1 : loQ x n = a) (h2 : hiQ x n = b) : sqrtP l n = .tup [ivP (rT a) (rT b), iP 0] := by
  obtain ⟨r1, r2⟩ := ratOf_of h
  unfold sqrtP
  rw [check_onen, r1, if_pos rfl, r2, if_neg h0, if_neg hn, if_pos rfl, ivQ_iv, h1, h2]
theorem aw5_a : sqrtP [50] 10 = .tup [ivP [55, 47, 53] [51, 47, 50], iP 0] := by
  have := sqrt_val t_p2 (by decide +kernel) (by omega) enc1.1 enc1.2
  rwa [t_f75, t_f32] at this
theorem aw5_b : sqrtP [57, 47, 52] 2 = .tup [ivP [51, 47, 50] [51, 47, 50], iP 0] := by
  have := sqrt_val t_f94 (by decide +kernel) (by omega) enc2.1 enc2.2
  rwa [t_f32] at this
theorem check_vals {L U : List (List UInt8)} (h1 : ∀ x ∈ L ++ U, isRat x = true) (h2 : ∀ x ∈ U, ¬ ratOf x < 0) {n : Int} (h3 : ¬ (n < 1 ∨ n > 1000000000)) : checkI L U n = 0 := by
  unfold checkI
  rw [if_pos (List.all_eq_true.2 h1), if_neg, if_neg h3]
  intro h
  obtain ⟨x, g1, g2⟩ := List.any_eq_true.1 h
  exact h2 x g1 (by simpa using g2)
theorem aw5_c : rsignP [51] [45, 50] [50] = .tup [iP 1, iP 0] := by
  obtain ⟨a1, a2⟩ := ratOf_of t_p3
  obtain ⟨b1, b2⟩ := ratOf_of t_m2
  obtain ⟨c1, c2⟩ := ratOf_of t_p2
  unfold rsignP
  rw [check_vals (by simp [a1, b1, c1]) (by simp [c2]; decide +kernel) (by omega), if_pos rfl, a2, b2, c2, sgn1]
theorem aw5_d : rcompP [50] [51] [51] [50] = .tup [iP (-1), iP 0] := by
  obtain ⟨a1, a2⟩ := ratOf_of t_p3
  obtain ⟨c1, c2⟩ := ratOf_of t_p2
  unfold rcompP
  rw [check_vals (by simp [a1, c1]) (by simp [a2, c2]; decide +kernel) (by omega), if_pos rfl, a2, c2, cmp1]
theorem aw5_e : exactP [57, 47, 52] = .tup [strP [51, 47, 50], .val (.bool true), iP 0] := by
  obtain ⟨a1, a2⟩ := ratOf_of t_f94
  have e1 : rt (9/4 : Rat).num.natAbs = 3 := rt_eq (by unfold isRt; decide +kernel)
  have e2 : rt (9/4 : Rat).den = 2 := rt_eq (by unfold isRt; decide +kernel)
  unfold exactP
  rw [a1, if_pos rfl, a2, if_neg (by decide +kernel), e1, e2, if_pos (by decide +kernel), show Rat.divInt ((3 : Nat) : Int) ((2 : Nat) : Int) = 3/2 by decide +kernel]
  unfold rtP; rw [t_f32]
theorem aw5_f : ofP [50] [57] 10 = .tup [ivP [55, 47, 53] [51], iP 0] := by
  obtain ⟨a1, a2⟩ := ratOf_of t_p2
  obtain ⟨b1, b2⟩ := ratOf_of t_p9
  have hv := isIv_rT (x := 2) (y := 9) (by decide +kernel)
  rw [t_p2, t_p9] at hv
  unfold ofP
  rw [hv, if_pos rfl, check_vals (by simp [a1]) (by simp [a2]; decide +kernel) (by omega), if_pos rfl, a2, b2, ivQ_iv, enc1.1, enc3, t_f75, t_p3]
theorem aw5_g : normP [[51], [52]] 7 = .tup [ivP [53] [53], iP 0] := by
  obtain ⟨a1, a2⟩ := ratOf_of t_p3
  obtain ⟨b1, b2⟩ := ratOf_of t_p4
  have hs : sqSum [[51], [52]] = 25 := by unfold sqSum; simp only [List.foldl, a2, b2]; decide +kernel
  unfold normP
  rw [if_neg (by decide), check_vals (by simp [a1, b1]) (by simp) (by omega), if_pos rfl, hs, enc4.1, enc4.2, ivQ_iv, t_p5]
end Gb
namespace Go.Proofs.YthhefojkkgjcfaaGreatDoor.S
open Go Go.Sx Go.RowKit Gb Go.Shelf
set_option maxRecDepth 100000 in
set_option maxHeartbeats 8000000 in
theorem awake5_n : Meets Tryz.prog Gd 10 [] (.val (.bool true)) := by
  refine meets_of_vc (Y := {}) (N := 96) (rs := [.tmp 0]) mix tk gd Tryz.func10 rfl (by kernel_rfl) rfl rfl (by simp) (by kernel_rfl) ?_
  simp (maxSteps := 10000000) only [↓sx, sx, ↓ty, ↓reduceIte, Nat.reduceEqDiff, Nat.reduceBeqDiff, Nat.reduceAdd, Nat.reduceLeDiff, Nat.reduceLT, Nat.reduceMul, Nat.reduceSub, Int.reduceEq, Int.reduceBNe, Int.reduceBEq, ne_eq, not_false_eq_true, pc, ls, bs, and_true, true_and, and_self, Nat.reduceAdd, Nat.le_refl, leafP, pi]
  have h1 := sqrt_n [50] 10 (by simp)
  rw [aw5_a] at h1
  refine CallT.mk (t := ⟨⟩) h1 ?_
  simp (maxSteps := 10000000) only [↓sx, sx, ↓ty, ↓reduceIte, Nat.reduceEqDiff, Nat.reduceBeqDiff, Nat.reduceAdd, Nat.reduceLeDiff, Nat.reduceLT, Nat.reduceMul, Nat.reduceSub, Int.reduceEq, Int.reduceBNe, Int.reduceBEq, ne_eq, not_false_eq_true, pc, ls, bs, and_true, true_and, and_self, Nat.reduceAdd, Nat.le_refl, leafP, pi]
  have h2 := sqrt_n [57, 47, 52] 2 (by simp)
  rw [aw5_b] at h2
  refine CallT.mk (t := ⟨⟩) h2 ?_
  simp (maxSteps := 10000000) only [↓sx, sx, ↓ty, ↓reduceIte, Nat.reduceEqDiff, Nat.reduceBeqDiff, Nat.reduceAdd, Nat.reduceLeDiff, Nat.reduceLT, Nat.reduceMul, Nat.reduceSub, Int.reduceEq, Int.reduceBNe, Int.reduceBEq, ne_eq, not_false_eq_true, pc, ls, bs, and_true, true_and, and_self, Nat.reduceAdd, Nat.le_refl, leafP, pi]
  have h3 := rsign3_n [51] [45, 50] [50] (by simp) (by simp) (by simp)
  rw [aw5_c] at h3
  refine CallT.mk (t := ⟨⟩) h3 ?_
  simp (maxSteps := 10000000) only [↓sx, sx, ↓ty, ↓reduceIte, Nat.reduceEqDiff, Nat.reduceBeqDiff, Nat.reduceAdd, Nat.reduceLeDiff, Nat.reduceLT, Nat.reduceMul, Nat.reduceSub, Int.reduceEq, Int.reduceBNe, Int.reduceBEq, ne_eq, not_false_eq_true, pc, ls, bs, and_true, true_and, and_self, Nat.reduceAdd, Nat.le_refl, leafP, pi]
  have h4 := rcomp_n [50] [51] [51] [50] (by simp) (by simp) (by simp) (by simp)
  rw [aw5_d] at h4
  refine CallT.mk (t := ⟨⟩) h4 ?_
  simp (maxSteps := 10000000) only [↓sx, sx, ↓ty, ↓reduceIte, Nat.reduceEqDiff, Nat.reduceBeqDiff, Nat.reduceAdd, Nat.reduceLeDiff, Nat.reduceLT, Nat.reduceMul, Nat.reduceSub, Int.reduceEq, Int.reduceBNe, Int.reduceBEq, ne_eq, not_false_eq_true, pc, ls, bs, and_true, true_and, and_self, Nat.reduceAdd, Nat.le_refl, leafP, pi]
  have h5 := xexact_n [57, 47, 52] (by simp)
  rw [aw5_e] at h5
  refine CallT.mk (t := ⟨⟩) h5 ?_
  simp (maxSteps := 10000000) only [↓sx, sx, ↓ty, ↓reduceIte, Nat.reduceEqDiff, Nat.reduceBeqDiff, Nat.reduceAdd, Nat.reduceLeDiff, Nat.reduceLT, Nat.reduceMul, Nat.reduceSub, Int.reduceEq, Int.reduceBNe, Int.reduceBEq, ne_eq, not_false_eq_true, pc, ls, bs, and_true, true_and, and_self, Nat.reduceAdd, Nat.le_refl, leafP, pi]
  have h6 := rof_n [50] [57] 10 (by simp) (by simp)
  rw [aw5_f] at h6
  refine CallT.mk (t := ⟨⟩) h6 ?_
  simp (maxSteps := 10000000) only [↓sx, sx, ↓ty, ↓reduceIte, Nat.reduceEqDiff, Nat.reduceBeqDiff, Nat.reduceAdd, Nat.reduceLeDiff, Nat.reduceLT, Nat.reduceMul, Nat.reduceSub, Int.reduceEq, Int.reduceBNe, Int.reduceBEq, ne_eq, not_false_eq_true, pc, ls, bs, and_true, true_and, and_self, Nat.reduceAdd, Nat.le_refl, leafP, pi, ag, beq_self_eq_true, w4, Int.reduceAdd]
  have h7 := rnorm_n [[51], [52]] 7 (by simp) (by simp)
  rw [aw5_g] at h7
  refine CallT.mk (t := ⟨⟩) h7 ?_
  simp (maxSteps := 10000000) only [↓sx, sx, ↓ty, ↓reduceIte, Nat.reduceEqDiff, Nat.reduceBeqDiff, Nat.reduceAdd, Nat.reduceLeDiff, Nat.reduceLT, Nat.reduceMul, Nat.reduceSub, Int.reduceEq, Int.reduceBNe, Int.reduceBEq, ne_eq, not_false_eq_true, pc, ls, bs, and_true, true_and, and_self, Nat.reduceAdd, Nat.le_refl, leafP, pi, ag, beq_self_eq_true, w4, Int.reduceAdd]
end Go.Proofs.YthhefojkkgjcfaaGreatDoor.S
namespace Gb
open Go Go.RowKit Go.Sx
theorem str_eta (s : ByteArray) : (⟨s.data.toList.toArray⟩ : ByteArray) = s := by cases s; simp
theorem fit_str {x : PV} (h : Fit1 .str x) : ∃ a : List UInt8, x = strP a ∧ a.length ≤ maxLen := by
  simp only [Fit1, Fit] at h
  obtain ⟨s, h1, h2⟩ := h
  rw [List.cons.injEq] at h1
  exact ⟨s.data.toList, by rw [h1.1]; unfold strP; rw [str_eta], by rw [Array.length_toList]; exact h2⟩
theorem fit_int {k : IntKind} {x : PV} (h : Fit1 (.int k) x) : ∃ n, x = .val (.int k n) ∧ (Lit.int k n).wf = true := by
  simp only [Fit1, Fit] at h
  obtain ⟨n, h1, h2⟩ := h
  rw [List.cons.injEq] at h1
  exact ⟨n, h1.1, h2⟩
theorem fita_nil {xs : List PV} (h : FitA [] xs) : xs = [] := h
theorem fita_cons {s : Sh} {l : List Sh} {xs : List PV} (h : FitA (s :: l) xs) : ∃ y ys, xs = y :: ys ∧ Fit1 s y ∧ FitA l ys := h
end Gb
namespace Gb
open Go Go.RowKit Go.Sx
theorem ivQ_eq (p : Rat × Rat) : ivQ p = ivP (rT p.1) (rT p.2) := rfl
theorem long_no {a : List UInt8} (h : longB a = false) : a.length ≤ 40 := by
  unfold longB at h; simpa using h
theorem longs_no {l : List (List UInt8)} (h : l.any longB = false) : ∀ a ∈ l, a.length ≤ 40 := fun a ha => long_no (by simpa using List.any_eq_false.1 h a ha)
end Gb
namespace Go.Proofs.YthhefojkkgjcfaaGreatDoor.S
open Go Go.Sx Go.RowKit Gb Go.Shelf
end Go.Proofs.YthhefojkkgjcfaaGreatDoor.S
namespace Gb
open Go Go.RowKit Go.Sx
theorem nat_rat (k : Nat) : (0 : Rat) ≤ (k : Nat) := by exact_mod_cast (show (0 : Int) ≤ (k : Int) by omega)
theorem int_pos {n : Int} (h : 1 ≤ n) : (0 : Rat) < (n : Rat) := by exact_mod_cast (show (0 : Int) < n by omega)
theorem sqr_lt {a b : Rat} (ha : 0 ≤ a) (h : a < b) : a * a < b * b := by
  refine Rat.not_le.1 fun c => ?_
  have hb : 0 < b := by grind
  have h1 := mul_mono (show a ≤ b by grind) ha
  have h2 := Rat.mul_pos (show 0 < b - a by grind) hb
  grind
theorem sq_cancel {a b c : Rat} (hc : 0 < c) (h : a * c ≤ b * c) : a ≤ b := Rat.not_lt.1 fun d => by
  have := Rat.mul_pos (show 0 < a - b by grind) hc; grind
theorem sq_cancel' {a b c : Rat} (hc : 0 < c) (h : a * c < b * c) : a < b := Rat.not_le.1 fun d => by have := mul_mono d (show 0 ≤ c by grind); grind
theorem rt_facts {x : Rat} {n : Int} (h0 : 0 ≤ x) (h1 : 1 ≤ n) : ((rtQ x n : Nat) : Rat) * (rtQ x n : Nat) ≤ x * (n * n) ∧ x * ((n : Rat) * n) < (((rtQ x n : Nat) : Rat) + 1) * (((rtQ x n : Nat) : Rat) + 1) := by
  have hn := int_pos h1
  have y0 : 0 ≤ x * ((n : Rat) * n) := Rat.mul_nonneg h0 (Rat.mul_nonneg (by grind) (by grind))
  unfold rtQ
  generalize x * ((n : Rat) * n) = y at *
  obtain ⟨r1, r2⟩ := rt_spec y.floor.toNat
  have f0 : 0 ≤ y.floor := Rat.le_floor_iff.2 (by exact_mod_cast y0)
  generalize rt y.floor.toNat = k at *
  have a1 : ((k * k : Nat) : Int) ≤ y.floor := by omega
  have a2 : y.floor < (((k + 1) * (k + 1) : Nat) : Int) := by omega
  have b1 := Rat.le_floor_iff.1 a1
  have b2 := Rat.floor_lt_iff.1 a2
  constructor
  · push_cast at b1; exact b1
  · push_cast at b2; exact b2
theorem lo_mul {x : Rat} {n : Int} (h1 : 1 ≤ n) : loQ x n * n = (rtQ x n : Nat) := by
  have hn := int_pos h1
  rw [loQ_div, Rat.div_mul_cancel (by grind)]
theorem one_n {n : Int} (h1 : 1 ≤ n) : 1 / (n : Rat) * n = 1 := by
  have hn := int_pos h1
  rw [Rat.div_mul_cancel (by grind)]
theorem lo_nn {x : Rat} {n : Int} (h1 : 1 ≤ n) : 0 ≤ loQ x n := sq_cancel (int_pos h1) (by rw [lo_mul h1]; have := nat_rat (rtQ x n); grind)
theorem step_pos {n : Int} (h1 : 1 ≤ n) : 0 < 1 / (n : Rat) := sq_cancel' (int_pos h1) (by rw [one_n h1]; grind)
theorem lo_sq {x : Rat} {n : Int} (h0 : 0 ≤ x) (h1 : 1 ≤ n) : loQ x n * loQ x n ≤ x := by
  have hn := int_pos h1
  refine sq_cancel (Rat.mul_pos hn hn) ?_
  have e : loQ x n * loQ x n * ((n : Rat) * n) = (loQ x n * n) * (loQ x n * n) := by grind
  rw [e, lo_mul h1]
  exact (rt_facts h0 h1).1
theorem up_sq {x : Rat} {n : Int} (h0 : 0 ≤ x) (h1 : 1 ≤ n) : x < (loQ x n + 1 / (n : Rat)) * (loQ x n + 1 / (n : Rat)) := by
  have hn := int_pos h1
  refine sq_cancel' (Rat.mul_pos hn hn) ?_
  have e : (loQ x n + 1 / (n : Rat)) * (loQ x n + 1 / (n : Rat)) * ((n : Rat) * n) = (loQ x n * n + 1 / (n : Rat) * n) * (loQ x n * n + 1 / (n : Rat) * n) := by grind
  rw [e, lo_mul h1, one_n h1]
  exact (rt_facts h0 h1).2
theorem encl_cases {x : Rat} {n : Int} (h0 : 0 ≤ x) (h1 : 1 ≤ n) : (loQ x n * loQ x n = x ∧ hiQ x n = loQ x n) ∨ (loQ x n * loQ x n < x ∧ x < hiQ x n * hiQ x n ∧ hiQ x n = loQ x n + 1 / (n : Rat)) := by
  rw [hiQ_lo x h1]
  by_cases h : loQ x n * loQ x n = x
  · exact .inl ⟨h, if_pos h⟩
  · have := lo_sq h0 h1
    exact .inr ⟨by grind, by rw [if_neg h]; exact up_sq h0 h1, if_neg h⟩
theorem lo_hi {x : Rat} {n : Int} (h0 : 0 ≤ x) (h1 : 1 ≤ n) : loQ x n ≤ hiQ x n := by
  have := step_pos h1
  rcases encl_cases h0 h1 with ⟨_, h⟩ | ⟨_, _, h⟩ <;> rw [h] <;> grind
theorem hi_sq {x : Rat} {n : Int} (h0 : 0 ≤ x) (h1 : 1 ≤ n) : x ≤ hiQ x n * hiQ x n := by
  rcases encl_cases h0 h1 with ⟨h, h'⟩ | ⟨_, h, _⟩
  · rw [h', h]; exact Rat.le_refl
  · grind
end Gb
namespace Gb
open Go Go.RowKit Go.Sx
theorem signI_eq (a b c : Rat) : signI a b c = if a.num.sign = 0 ∨ b.num.sign * c.num.sign = 0 ∨ a.num.sign = b.num.sign * c.num.sign then (if a.num.sign = 0 then b.num.sign * c.num.sign else a.num.sign) else a.num.sign * (a * a - b * b * c).num.sign := by
  unfold signI
  rw [sumI_nt _ _ _ _ (sgn3_mul (sgn3 _) (by omega)) (sgn3_mul (sgn3 _) (sgn3 _)), Int.mul_one]
theorem dec_pos {a b c lo hi : Rat} (h0 : 0 ≤ lo) (h1 : lo ≤ hi) (h2 : lo * lo ≤ c) (h3 : c ≤ hi * hi) (k1 : 0 < a + b * lo) (k2 : 0 < a + b * hi) : signI a b c = 1 := by
  have c0 : 0 ≤ c := by have := sq_nonneg lo; grind
  have b2 := sq_nonneg b
  have m1 := mul_mono h2 b2
  have m2 := mul_mono h3 b2
  rw [signI_eq]
  rcases sign_cases c with ⟨ec, hc⟩ | ⟨ec, hc⟩ | ⟨ec, hc⟩
  · exact absurd hc (by grind)
  · subst hc
    have hlo : lo = 0 := by
      refine Rat.le_antisymm (Rat.not_lt.1 fun h => ?_) h0
      have := Rat.mul_pos h h; grind
    have ap : 0 < a := by rw [hlo] at k1; grind
    rw [num_sign_pos ap, ec]; simp
  · rcases sign_cases b with ⟨eb, hb⟩ | ⟨eb, hb⟩ | ⟨eb, hb⟩
    · have n1 := mul_anti (a := 0) (b := lo) (x := b) h0 (by grind)
      have n2 := mul_anti (a := 0) (b := hi) (x := b) (by grind) (by grind)
      have ap : 0 < a := by grind
      have q := sqr_lt (a := -(b * hi)) (b := a) (by grind) (by grind)
      have : 0 < a * a - b * b * c := by grind
      rw [num_sign_pos ap, eb, ec, num_sign_pos this]; decide
    · subst hb
      have ap : 0 < a := by grind
      rw [num_sign_pos ap, eb]; simp
    · have n1 := mul_mono (a := 0) (b := lo) (x := b) h0 (by grind)
      rcases sign_cases a with ⟨ea, ha⟩ | ⟨ea, ha⟩ | ⟨ea, ha⟩
      · have q := sqr_lt (a := -a) (b := b * lo) (by grind) (by grind)
        have : a * a - b * b * c < 0 := by grind
        rw [ea, eb, ec, num_sign_neg this]; decide
      · rw [ea, eb, ec]; rfl
      · rw [ea, eb, ec]; rfl
theorem dec_zero {a b c lo hi : Rat} (h0 : 0 ≤ lo) (h1 : lo ≤ hi) (h2 : lo * lo ≤ c) (h3 : c ≤ hi * hi) (k1 : a + b * lo = 0) (k2 : a + b * hi = 0) : signI a b c = 0 := by
  have c0 : 0 ≤ c := by have := sq_nonneg lo; grind
  rw [signI_eq]
  by_cases hb : b = 0
  · subst hb
    have : a = 0 := by grind
    subst this
    rw [show (0 : Rat).num.sign = 0 from rfl, Int.zero_mul]; simp
  · have e : b * (hi - lo) = 0 := by grind
    have hh : hi = lo := by rcases Rat.mul_eq_zero.1 e with h | h <;> grind
    subst hh
    have hc : c = hi * hi := by grind
    have ha : a = -(b * hi) := by grind
    have : a * a - b * b * c = 0 := by subst ha hc; grind
    rw [this]
    by_cases hz : hi = 0
    · have a0 : a = 0 := by subst hz; grind
      have c00 : c = 0 := by subst hz; grind
      rw [a0, c00]; simp
    · have hp : 0 < hi := by grind
      have cp : 0 < c := by rw [hc]; exact Rat.mul_pos hp hp
      rw [num_sign_pos cp]
      by_cases bn : b < 0
      · have : 0 < a := by have := Rat.mul_pos (show 0 < -b by grind) hp; grind
        rw [num_sign_pos this, num_sign_neg bn]; decide
      · have bp : 0 < b := by grind
        have : a < 0 := by have := Rat.mul_pos bp hp; grind
        rw [num_sign_neg this, num_sign_pos bp]; decide
theorem sign_neg (x : Rat) : (x * (-1)).num.sign = -x.num.sign := by
  rcases sign_cases x with ⟨e, h⟩ | ⟨e, h⟩ | ⟨e, h⟩
  · rw [e, num_sign_pos (by grind)]; rfl
  · subst h; rw [Rat.zero_mul]; rfl
  · rw [e, num_sign_neg (by grind)]
theorem signI_neg (a b c : Rat) : signI (a * (-1)) (b * (-1)) c = -signI a b c := by
  rw [signI_eq, signI_eq, sign_neg, sign_neg, show a * (-1) * (a * (-1)) = a * a by grind, show b * (-1) * (b * (-1)) * c = b * b * c by grind]
  rcases sgn3 a with ea | ea | ea <;> rcases sgn3 b with eb | eb | eb <;> rcases sgn3 c with ec | ec | ec <;> rw [ea, eb, ec] <;> simp
theorem cor_pt {b lo hi : Rat} : corQ (· * ·) b b lo hi = (leastQ (b * lo) (b * hi), mostQ (b * lo) (b * hi)) := by
  unfold corQ
  rw [ends4]
  simp only [leastQ, mostQ]
  grind
theorem least_most (x y : Rat) : leastQ x y ≤ mostQ x y := by unfold leastQ mostQ; split <;> split <;> grind
theorem decide_law {a b c lo hi v1 v2 : Rat} (h0 : 0 ≤ lo) (h1 : lo ≤ hi) (h2 : lo * lo ≤ c) (h3 : c ≤ hi * hi) (e1 : v1 = a + leastQ (b * lo) (b * hi)) (e2 : v2 = a + mostQ (b * lo) (b * hi)) :
    (0 < v1 → signI a b c = 1) ∧ (v2 < 0 → signI a b c = -1) ∧ (¬ 0 < v1 → ¬ v2 < 0 → v1 = v2 → signI a b c = 0) := by
  have l1 : leastQ (b * lo) (b * hi) ≤ b * lo ∧ leastQ (b * lo) (b * hi) ≤ b * hi := by unfold leastQ; split <;> grind
  have l2 : b * lo ≤ mostQ (b * lo) (b * hi) ∧ b * hi ≤ mostQ (b * lo) (b * hi) := by unfold mostQ; split <;> grind
  refine ⟨fun h => dec_pos h0 h1 h2 h3 (by grind) (by grind), fun h => ?_, fun g1 g2 g3 => dec_zero h0 h1 h2 h3 (by grind) (by grind)⟩
  have := dec_pos (a := a * (-1)) (b := b * (-1)) h0 h1 h2 h3 (by grind) (by grind)
  rw [signI_neg] at this
  omega
theorem check_three (a b c : List UInt8) : checkI [a, b] [c] 1 = if isRat a && isRat b && isRat c then (if ratOf c < 0 then 2 else 0) else 1 := by
  unfold checkI; simp [Bool.and_assoc]
theorem encl_sz8 {x : Rat} {n : Int} (hx : Sz 8 x) (h1 : 1 ≤ n) (h2 : n ≤ 1000000000) : Sz 60 (loQ x n) ∧ Sz 60 (hiQ x n) := by
  have hn : Lw n.natAbs ≤ 2 := Lw_le (by show n.natAbs < 1000000000 ^ 2; omega)
  have sn : Sz 2 (n : Rat) := Sz.int hn (by omega)
  have snn := sn.mul sn
  have sy := hx.mul (snn.mono (m := 8) (by omega))
  have lf := Lw_floor sy
  have lk : Lw (rtQ x n) ≤ 18 := by
    have := Lw_root (rt_spec (x * (n * n)).floor.toNat).1
    have := Lw_mono (show (x * ((n : Rat) * n)).floor.toNat ≤ (x * ((n : Rat) * n)).floor.natAbs by omega)
    unfold rtQ; omega
  have sk : Sz 18 ((rtQ x n : Nat) : Rat) := Sz.int (z := (rtQ x n : Int)) (by simpa using lk) (by omega)
  have slo : Sz 36 (loQ x n) := by rw [loQ_div, Rat.div_def]; exact sk.mul ((sn.mono (m := 18) (by omega)).inv (by omega))
  have s1n : Sz 2 (1 / (n : Rat)) := by rw [Rat.div_def, Rat.one_mul]; exact sn.inv (by omega)
  refine ⟨slo.mono (by omega), ?_⟩
  rw [hiQ_lo x h1]
  split
  · exact slo.mono (by omega)
  · exact (slo.add2 s1n).mono (by omega)
end Gb
namespace Gb
open Go Go.RowKit Go.Sx
end Gb
namespace Go.Proofs.YthhefojkkgjcfaaGreatDoor.S
open Go Go.Sx Go.RowKit Gb Go.Shelf
end Go.Proofs.YthhefojkkgjcfaaGreatDoor.S
namespace Gb
open Go Go.RowKit Go.Sx
theorem mod1 {n m k : Int} (h : 0 ≤ n) (hm : 0 < m) (hk : m ≤ k) : 1 ≤ 1 + n % m ∧ 1 + n % m ≤ k := by
  have := Int.emod_nonneg n (show m ≠ 0 by omega)
  have := Int.emod_lt_of_pos n hm
  omega
end Gb
namespace Go.Proofs.YthhefojkkgjcfaaGreatDoor.S
open Go Go.Sx Go.RowKit Gb Go.Shelf
end Go.Proofs.YthhefojkkgjcfaaGreatDoor.S
namespace Gb
open Go Go.RowKit Go.Sx
theorem least_sz {k : Nat} {x y : Rat} (hx : Sz k x) (hy : Sz k y) : Sz k (leastQ x y) ∧ Sz k (mostQ x y) := by
  unfold leastQ mostQ
  constructor <;> split <;> assumption
theorem isg_q {x y : Rat} (h : x ≤ y) : isignP (rT x) (rT y) = if 0 < x then .tup [iP 1, .val (.bool true), iP 0] else if y < 0 then .tup [iP (-1), .val (.bool true), iP 0] else .tup [iP 0, .val (.bool (rT x == rT y)), iP 0] := by
  unfold isignP
  rw [isIv_rT h, if_pos rfl, ratOf_rT, ratOf_rT]
theorem wneg3 {s : Int} (h : s = -1 ∨ s = 0 ∨ s = 1) : IntKind.i64.wrap (0 - s) = -s := by rcases h with rfl | rfl | rfl <;> decide
theorem wz : (IntKind.i64.wrap (0 - 1) = -1) ∧ (IntKind.i64.wrap (0 - -1) = 1) ∧ (IntKind.i64.wrap (0 - 0) = 0) ∧ (-(-1 : Int) = 1) ∧ (-(0 : Int) = 0) := by decide
theorem signI3 (a b c : Rat) : signI a b c = -1 ∨ signI a b c = 0 ∨ signI a b c = 1 := by
  rw [signI_eq]
  have ha := sgn3 a
  have hb := sgn3_mul (sgn3 b) (sgn3 c)
  split
  · split <;> assumption
  · exact sgn3_mul ha (sgn3 _)
end Gb
namespace Go.Proofs.YthhefojkkgjcfaaGreatDoor.S
open Go Go.Sx Go.RowKit Gb Go.Shelf
set_option maxRecDepth 100000 in
set_option maxHeartbeats 16000000 in
theorem decides_n (a b c : List UInt8) (n : Int) (hn0 : 0 ≤ n) (hn1 : n ≤ 65535) : Meets Tryz.prog Gd 9 [strP a, strP b, strP c, .val (.int .u16 n)] (.val (.bool true)) := by
  refine meets_of_vc (Y := {}) (N := 124) (rs := [.tmp 8]) mix tk gd Tryz.func9 rfl (by kernel_rfl) rfl rfl (by simp) (by kernel_rfl) ?_
  have cv : IntKind.i64.wrap n = n := i64_id (by omega) (by omega)
  have tm : Int.tmod n 500 = n % 500 := tmod_pos hn0
  obtain ⟨K, hK⟩ : ∃ K : Int, K = 1 + n % 500 := ⟨_, rfl⟩
  obtain ⟨k1, k2⟩ := mod1 hn0 (show (0 : Int) < 500 by omega) (Int.le_refl _)
  have wk : IntKind.i64.wrap (1 + n % 500) = K := by rw [← hK]; exact i64_id (by omega) (by omega)
  rw [← hK] at k1 k2
  simp (maxSteps := 10000000) only [↓sx, sx, ↓ty, ↓reduceIte, Nat.reduceEqDiff, Nat.reduceBeqDiff, Nat.reduceAdd, Nat.reduceLeDiff, Nat.reduceLT, Nat.reduceMul, Nat.reduceSub, Int.reduceEq, Int.reduceBNe, Int.reduceBEq, ne_eq, not_false_eq_true, pc, ls, bs, and_true, true_and, and_self, Nat.reduceAdd, Nat.le_refl, leafP, pi]
  refine CallT.mk (t := ⟨⟩) awake5_n ?_
  simp (maxSteps := 10000000) only [↓sx, sx, ↓ty, ↓reduceIte, Nat.reduceEqDiff, Nat.reduceBeqDiff, Nat.reduceAdd, Nat.reduceLeDiff, Nat.reduceLT, Nat.reduceMul, Nat.reduceSub, Int.reduceEq, Int.reduceBNe, Int.reduceBEq, ne_eq, not_false_eq_true, pc, ls, bs, and_true, true_and, and_self, Nat.reduceAdd, Nat.le_refl, leafP, pi]
  refine CallT.mk (t := ⟨⟩) (long5_n [a, b, c] (by simp)) ?_
  cases hw : [a, b, c].any longB with
  | true =>
    simp (maxSteps := 10000000) only [↓sx, sx, ↓ty, ↓reduceIte, Nat.reduceEqDiff, Nat.reduceBeqDiff, Nat.reduceAdd, Nat.reduceLeDiff, Nat.reduceLT, Nat.reduceMul, Nat.reduceSub, Int.reduceEq, Int.reduceBNe, Int.reduceBEq, ne_eq, not_false_eq_true, pc, ls, bs, and_true, true_and, and_self, Nat.reduceAdd, Nat.le_refl, leafP, pi]
    refine CallT.mk (t := ⟨⟩) awake5_n ?_
    simp (maxSteps := 10000000) only [↓sx, sx, ↓ty, ↓reduceIte, Nat.reduceEqDiff, Nat.reduceBeqDiff, Nat.reduceAdd, Nat.reduceLeDiff, Nat.reduceLT, Nat.reduceMul, Nat.reduceSub, Int.reduceEq, Int.reduceBNe, Int.reduceBEq, ne_eq, not_false_eq_true, pc, ls, bs, and_true, true_and, and_self, Nat.reduceAdd, Nat.le_refl, leafP, pi]
  | false =>
    have la := longs_no hw a (by simp)
    have lb := longs_no hw b (by simp)
    have lc := longs_no hw c (by simp)
    have G1 := rsign3_n a b c (by omega) (by omega) (by omega)
    unfold rsignP at G1
    by_cases he : checkI [a, b] [c] 1 = 0
    · rw [if_pos he] at G1
      obtain ⟨g1, g2, g3, g4⟩ := check_ok he
      obtain ⟨A, rfl, sA⟩ := rT_of (g1 a (by simp))
      obtain ⟨B, rfl, sB⟩ := rT_of (g1 b (by simp))
      obtain ⟨C, rfl, sC⟩ := rT_of (g1 c (by simp))
      have C0 := g2 (rT C) (by simp)
      rw [ratOf_rT] at C0
      rw [ratOf_rT, ratOf_rT, ratOf_rT] at G1
      have sA := sA.mono (m := 8) (by omega)
      have sB := sB.mono (m := 8) (by omega)
      have sC := sC.mono (m := 8) (by omega)
      have s1 : Sz 8 (-1 : Rat) := (Sz1 8 (by omega)).neg
      have m1 : rtP (-1) = strP [45, 49] := by unfold rtP; rw [t_m1]
      have A1 := rop_q rmul_n A (-1) (sA.mono (by omega)) (s1.mono (by omega))
      have B1 := rop_q rmul_n B (-1) (sB.mono (by omega)) (s1.mono (by omega))
      rw [m1] at A1 B1
      have zA := (sA.mul s1)
      have zB := (sB.mul s1)
      have G2 := rsign3_n (rT (A * (-1))) (rT (B * (-1))) (rT C) (by have := rT_len zA; omega) (by have := rT_len zB; omega) (by omega)
      unfold rsignP at G2
      rw [check_three, isRat_rT, isRat_rT, isRat_rT, ratOf_rT, ratOf_rT, ratOf_rT, if_pos (show (true && true && true) = true from rfl), if_neg (show ¬ C < 0 by grind), if_pos rfl, signI_neg] at G2
      have S1 := sqrt_n (rT C) K (by omega)
      unfold sqrtP at S1
      rw [check_onen, isRat_rT, if_pos (show true = true from rfl), ratOf_rT, if_neg (show ¬ C < 0 by grind), if_neg (show ¬ (K < 1 ∨ K > 1000000000) by omega), if_pos rfl] at S1
      obtain ⟨zl, zh⟩ := encl_sz8 (n := K) sC k1 (by omega)
      have hle := lo_hi C0 k1
      have I1 := imul2_n (rT B) (rT B) (rT (loQ C K)) (rT (hiQ C K)) (by omega) (by omega) (by have := rT_len zl; omega) (by have := rT_len zh; omega)
      rw [icor_q _ Rat.le_refl hle, cor_pt] at I1
      have hlm := least_most (B * loQ C K) (B * hiQ C K)
      obtain ⟨q1, q2⟩ := least_sz ((sB.mono (m := 60) (by omega)).mul zl) ((sB.mono (m := 60) (by omega)).mul zh)
      have I2 := iadd2_n (rT A) (rT A) (rT (leastQ (B * loQ C K) (B * hiQ C K))) (rT (mostQ (B * loQ C K) (B * hiQ C K))) (by omega) (by omega) (by have := rT_len q1; omega) (by have := rT_len q2; omega)
      rw [icor_q _ Rat.le_refl hlm, corQ_add Rat.le_refl hlm] at I2
      have r1 := (sA.mono (m := 120) (by omega)).add q1
      have r2 := (sA.mono (m := 120) (by omega)).add q2
      obtain ⟨dl1, dl2, dl3⟩ := decide_law (a := A) (b := B) (c := C) (lo_nn k1) hle (lo_sq C0 k1) (hi_sq C0 k1) rfl rfl
      obtain ⟨v1, hv1⟩ : ∃ v, v = A + leastQ (B * loQ C K) (B * hiQ C K) := ⟨_, rfl⟩
      obtain ⟨v2, hv2⟩ : ∃ v, v = A + mostQ (B * loQ C K) (B * hiQ C K) := ⟨_, rfl⟩
      rw [← hv1] at dl1 dl3 I2 r1
      rw [← hv2] at dl2 dl3 I2 r2
      have h12 : v1 ≤ v2 := by rw [hv1, hv2]; grind
      have I3 := isign2_n (rT v1) (rT v2) (by have := rT_len r1; omega) (by have := rT_len r2; omega)
      rw [isg_q h12] at I3
      have w3 := wneg3 (signI3 A B C)
      generalize signI A B C = s at *
      generalize leastQ (B * loQ C K) (B * hiQ C K) = u1 at *
      generalize mostQ (B * loQ C K) (B * hiQ C K) = u2 at *
      simp (maxSteps := 10000000) only [↓sx, sx, ↓ty, ↓reduceIte, Nat.reduceEqDiff, Nat.reduceBeqDiff, Nat.reduceAdd, Nat.reduceLeDiff, Nat.reduceLT, Nat.reduceMul, Nat.reduceSub, Int.reduceEq, Int.reduceBNe, Int.reduceBEq, ne_eq, not_false_eq_true, pc, ls, bs, and_true, true_and, and_self, Nat.reduceAdd, Nat.le_refl, leafP, pi, cv, tm, wk]
      refine CallT.mk (t := ⟨⟩) G1 ?_
      simp (maxSteps := 10000000) only [↓sx, sx, ↓ty, ↓reduceIte, Nat.reduceEqDiff, Nat.reduceBeqDiff, Nat.reduceAdd, Nat.reduceLeDiff, Nat.reduceLT, Nat.reduceMul, Nat.reduceSub, Int.reduceEq, Int.reduceBNe, Int.reduceBEq, ne_eq, not_false_eq_true, pc, ls, bs, and_true, true_and, and_self, Nat.reduceAdd, Nat.le_refl, leafP, pi]
      refine CallT.mk (t := ⟨⟩) A1 ?_
      simp (maxSteps := 10000000) only [↓sx, sx, ↓ty, ↓reduceIte, Nat.reduceEqDiff, Nat.reduceBeqDiff, Nat.reduceAdd, Nat.reduceLeDiff, Nat.reduceLT, Nat.reduceMul, Nat.reduceSub, Int.reduceEq, Int.reduceBNe, Int.reduceBEq, ne_eq, not_false_eq_true, pc, ls, bs, and_true, true_and, and_self, Nat.reduceAdd, Nat.le_refl, leafP, pi]
      refine CallT.mk (t := ⟨⟩) B1 ?_
      simp (maxSteps := 10000000) only [↓sx, sx, ↓ty, ↓reduceIte, Nat.reduceEqDiff, Nat.reduceBeqDiff, Nat.reduceAdd, Nat.reduceLeDiff, Nat.reduceLT, Nat.reduceMul, Nat.reduceSub, Int.reduceEq, Int.reduceBNe, Int.reduceBEq, ne_eq, not_false_eq_true, pc, ls, bs, and_true, true_and, and_self, Nat.reduceAdd, Nat.le_refl, leafP, pi]
      refine CallT.mk (t := ⟨⟩) G2 ?_
      simp (maxSteps := 10000000) only [↓sx, sx, ↓ty, ↓reduceIte, Nat.reduceEqDiff, Nat.reduceBeqDiff, Nat.reduceAdd, Nat.reduceLeDiff, Nat.reduceLT, Nat.reduceMul, Nat.reduceSub, Int.reduceEq, Int.reduceBNe, Int.reduceBEq, ne_eq, not_false_eq_true, pc, ls, bs, and_true, true_and, and_self, Nat.reduceAdd, Nat.le_refl, leafP, pi, cv, tm, wk]
      refine CallT.mk (t := ⟨⟩) S1 ?_
      rw [ivQ_eq]
      simp (maxSteps := 10000000) only [↓sx, sx, ↓ty, ↓reduceIte, Nat.reduceEqDiff, Nat.reduceBeqDiff, Nat.reduceAdd, Nat.reduceLeDiff, Nat.reduceLT, Nat.reduceMul, Nat.reduceSub, Int.reduceEq, Int.reduceBNe, Int.reduceBEq, ne_eq, not_false_eq_true, pc, ls, bs, and_true, true_and, and_self, Nat.reduceAdd, Nat.le_refl, leafP, pi]
      refine CallT.mk (t := ⟨⟩) I1 ?_
      rw [ivQ_eq]
      simp (maxSteps := 10000000) only [↓sx, sx, ↓ty, ↓reduceIte, Nat.reduceEqDiff, Nat.reduceBeqDiff, Nat.reduceAdd, Nat.reduceLeDiff, Nat.reduceLT, Nat.reduceMul, Nat.reduceSub, Int.reduceEq, Int.reduceBNe, Int.reduceBEq, ne_eq, not_false_eq_true, pc, ls, bs, and_true, true_and, and_self, Nat.reduceAdd, Nat.le_refl, leafP, pi]
      refine CallT.mk (t := ⟨⟩) I2 ?_
      rw [ivQ_eq]
      simp (maxSteps := 10000000) only [↓sx, sx, ↓ty, ↓reduceIte, Nat.reduceEqDiff, Nat.reduceBeqDiff, Nat.reduceAdd, Nat.reduceLeDiff, Nat.reduceLT, Nat.reduceMul, Nat.reduceSub, Int.reduceEq, Int.reduceBNe, Int.reduceBEq, ne_eq, not_false_eq_true, pc, ls, bs, and_true, true_and, and_self, Nat.reduceAdd, Nat.le_refl, leafP, pi]
      refine CallT.mk (t := ⟨⟩) I3 ?_
      by_cases c1 : 0 < v1
      · rw [if_pos c1, dl1 c1]
        simp (maxSteps := 10000000) only [↓sx, sx, ↓ty, ↓reduceIte, Nat.reduceEqDiff, Nat.reduceBeqDiff, Nat.reduceAdd, Nat.reduceLeDiff, Nat.reduceLT, Nat.reduceMul, Nat.reduceSub, Int.reduceEq, Int.reduceBNe, Int.reduceBEq, ne_eq, not_false_eq_true, pc, ls, bs, and_true, true_and, and_self, Nat.reduceAdd, Nat.le_refl, leafP, pi, w4, Int.reduceAdd, ag, beq_self_eq_true, wz]
        try rfl
      · rw [if_neg c1]
        by_cases c2 : v2 < 0
        · rw [if_pos c2, dl2 c2]
          simp (maxSteps := 10000000) only [↓sx, sx, ↓ty, ↓reduceIte, Nat.reduceEqDiff, Nat.reduceBeqDiff, Nat.reduceAdd, Nat.reduceLeDiff, Nat.reduceLT, Nat.reduceMul, Nat.reduceSub, Int.reduceEq, Int.reduceBNe, Int.reduceBEq, ne_eq, not_false_eq_true, pc, ls, bs, and_true, true_and, and_self, Nat.reduceAdd, Nat.le_refl, leafP, pi, w4, Int.reduceAdd, ag, beq_self_eq_true, wz]
          try rfl
        · rw [if_neg c2]
          cases hq : (rT v1 == rT v2) with
          | true =>
            have : v1 = v2 := by have := congrArg ratOf (eq_of_beq hq); rwa [ratOf_rT, ratOf_rT] at this
            rw [dl3 c1 c2 this]
            simp (maxSteps := 10000000) only [↓sx, sx, ↓ty, ↓reduceIte, Nat.reduceEqDiff, Nat.reduceBeqDiff, Nat.reduceAdd, Nat.reduceLeDiff, Nat.reduceLT, Nat.reduceMul, Nat.reduceSub, Int.reduceEq, Int.reduceBNe, Int.reduceBEq, ne_eq, not_false_eq_true, pc, ls, bs, and_true, true_and, and_self, Nat.reduceAdd, Nat.le_refl, leafP, pi, w4, Int.reduceAdd, ag, beq_self_eq_true, wz]
            try rfl
          | false =>
            simp (maxSteps := 10000000) only [↓sx, sx, ↓ty, ↓reduceIte, Nat.reduceEqDiff, Nat.reduceBeqDiff, Nat.reduceAdd, Nat.reduceLeDiff, Nat.reduceLT, Nat.reduceMul, Nat.reduceSub, Int.reduceEq, Int.reduceBNe, Int.reduceBEq, ne_eq, not_false_eq_true, pc, ls, bs, and_true, true_and, and_self, Nat.reduceAdd, Nat.le_refl, leafP, pi, w4, Int.reduceAdd, ag, beq_self_eq_true, w3]
            try rfl
    · rw [if_neg he] at G1
      have d0 : (checkI [a, b] [c] 1 != 0) = true := by simp [he]
      simp (maxSteps := 10000000) only [↓sx, sx, ↓ty, ↓reduceIte, Nat.reduceEqDiff, Nat.reduceBeqDiff, Nat.reduceAdd, Nat.reduceLeDiff, Nat.reduceLT, Nat.reduceMul, Nat.reduceSub, Int.reduceEq, Int.reduceBNe, Int.reduceBEq, ne_eq, not_false_eq_true, pc, ls, bs, and_true, true_and, and_self, Nat.reduceAdd, Nat.le_refl, leafP, pi, cv, tm, wk]
      refine CallT.mk (t := ⟨⟩) G1 ?_
      simp (maxSteps := 10000000) only [↓sx, sx, ↓ty, ↓reduceIte, Nat.reduceEqDiff, Nat.reduceBeqDiff, Nat.reduceAdd, Nat.reduceLeDiff, Nat.reduceLT, Nat.reduceMul, Nat.reduceSub, Int.reduceEq, Int.reduceBNe, Int.reduceBEq, ne_eq, not_false_eq_true, pc, ls, bs, and_true, true_and, and_self, Nat.reduceAdd, Nat.le_refl, leafP, pi, d0, ag, beq_self_eq_true]
      try rfl
theorem decides_law (xs : List PV) (h : FitA [.str, .str, .str, .int .u16] xs) : Meets Tryz.prog Gd 9 xs (.val (.bool true)) := by
  obtain ⟨_, _, rfl, h1, h⟩ := fita_cons h
  obtain ⟨_, _, rfl, h2, h⟩ := fita_cons h
  obtain ⟨_, _, rfl, h3, h⟩ := fita_cons h
  obtain ⟨_, _, rfl, h4, h⟩ := fita_cons h
  obtain rfl := fita_nil h
  obtain ⟨a, rfl, _⟩ := fit_str h1
  obtain ⟨b, rfl, _⟩ := fit_str h2
  obtain ⟨c, rfl, _⟩ := fit_str h3
  obtain ⟨n, rfl, hn⟩ := fit_int h4
  have := bounds_u16 hn
  exact decides_n a b c n this.1 this.2
end Go.Proofs.YthhefojkkgjcfaaGreatDoor.S
namespace Go.Proofs.YthhefojkkgjcfaaGreatDoor.S
open Go Go.Sx Go.RowKit Gb Go.Shelf Go.ChangeShapes Go.WideShapes Go.ChangeAt
theorem own : ownKnob Tryz.prog.godebug = none := by kernel_rfl
theorem laidOut : laidOutB Tryz.prog = true := by kernel_rfl
def laidL : List (String × DataW Unit) := Rows.rootDecidesRow.laid
theorem door_met (os : Os) (args : Array Value) : laidMetH Tryz.prog laidL ((World.doorLaid Tryz.prog 400 os).forCall (fun _ _ => 0) ⟨#[], args, []⟩).memory :=
  laidMetH_of_parts3 (fuel := 8) (laidMet_of_run' 8 (by kernel_rfl) (by kernel_rfl)) (by kernel_rfl) (by kernel_rfl)
theorem gT : ∃ g, Tryz.prog.globalNamed "internal/strconv.uint64pow10" = some g ∧ (Tryz.prog.globals[g]?).map (·.type) = some 244 := by
  have h : (Tryz.prog.globalNamed "internal/strconv.uint64pow10").bind (fun g => (Tryz.prog.globals[g]?).map (·.type)) = some 244 := by kernel_rfl
  obtain ⟨g, h1, h2⟩ := Option.bind_eq_some_iff.1 h
  exact ⟨g, h1, h2⟩
theorem celU : Tryz.prog.cellsOf 120 = 1 := by kernel_rfl
theorem celA : Tryz.prog.cellsOf 244 = 20 := by kernel_rfl
theorem gd_of_laid {W : World} (h : laidMetH Tryz.prog laidL W) : Gd W := by
  have h2 := h.filter fun x => x.1 == "internal/strconv.uint64pow10"
  rw [MakeChecks.laidMetH_plain _ _ _ (by kernel_rfl)] at h2
  obtain ⟨g, h3, h4⟩ := gT
  exact Lib.tabIs_of_head (rest := []) h3 h4 Tryz.underlying244 Tryz.underlying120 celU celA h2
set_option maxRecDepth 100000 in
theorem row_lifted (os : Os) (started : os.Started) (H : Type) (enc : TypeId × Value → H) :
    ReturnsInHanded {} Tryz.checked os 9 .any (fun w args => (Rows.rootDecidesSpec.pre enc Tryz.prog Tryz.f9 [] false w args ∧ laidMetH Tryz.prog laidL w) ∧ sizedMet enc Tryz.prog Tryz.f9 (OpenSpec.ofChange Rows.rootDecidesSpec) false w args)
      (Rows.rootDecidesSpec.post enc Tryz.prog Tryz.f9 false true false false) := by
  refine returnsInHanded_of_change_and (C := Tryz.checked) (X := fun w _ => laidMetH Tryz.prog laidL w) (fun _ _ _ hh h => h.of_heap hh) own started (by kernel_rfl) Tryz.func9
    (ChangeSpec.witness_shaped (enc := enc) (C := Tryz.checked) (os := os) (X := fun w _ => laidMetH Tryz.prog laidL w) false (World.doorLaid Tryz.prog 400 os) #[.string ⟨#[]⟩, .string ⟨#[]⟩, .string ⟨#[]⟩, .int .u16 0] 8 rfl (World.shaped_of_RefB (by kernel_rfl) (by kernel_rfl)) (by kernel_rfl) (by kernel_rfl) (by kernel_rfl) (door_met os _)) ?_
  rintro W base ⟨args⟩ ds gs before hval0 hW _ _ hL _
  have hval : ∀ (j : Nat) t v, Tryz.f9.params.toList[j]? = some t → args[j]? = some v → Value.okWide Tryz.prog W .any base t v := fun j t v h1 h2 => hval0 j t v (by simpa using h1) (by simpa using h2)
  have hW' := hW
  obtain ⟨p, q, hA0, hV, rfl, hfz, hnd⟩ := hW
  have hC := law_calls (G := Gd) (f := 9) (l := [.str, .str, .str, .int .u16]) (by kernel_rfl) decides_law hval hA0 (gd_of_laid hL)
  have hT := fun W' hb => below_trodAll (W' := W') laidOut hb (by kernel_rfl) hA0
  obtain ⟨rfl, rfl⟩ := trodVars_none hV
  simp only [List.append_nil] at hW'
  replace hA0 : DataW.TrodAll enc Tryz.prog W 0 (fun _ => true) true Tryz.f9.params.toList args ds p := hA0
  rw [Tryz.params9] at hA0
  obtain ⟨v0, vs0, d0, ds0, p0, q0, e0, rfl, rfl, _, hA0⟩ := trodAll_cons hA0
  obtain ⟨v1, vs1, d1, ds1, p1, q1, e1, rfl, rfl, _, hA0⟩ := trodAll_cons hA0
  obtain ⟨v2, vs2, d2, ds2, p2, q2, e2, rfl, rfl, _, hA0⟩ := trodAll_cons hA0
  obtain ⟨v3, vs3, d3, ds3, p3, q3, e3, rfl, rfl, _, hA0⟩ := trodAll_cons hA0
  obtain ⟨_, rfl, rfl⟩ := trodAll_nil hA0
  refine hC.mono fun e W' ⟨he, hb⟩ => ?_
  subst he
  exact ⟨_, rfl, _, _, _, [], _, [], hW', trodAll_mk1 (shut_bool Tryz.underlying4 _), hT W' hb, rfl, hb.frame _, fun h => by cases h⟩
theorem row_holds : Rows.RootDecidesSaid :=
  OpenClaim.holds_of_wide 9 Tryz.f9 rfl rfl rfl rfl rfl rfl rfl ⟨rfl, rfl, rfl, rfl, rfl⟩ rfl rfl rfl rfl rfl (by kernel_rfl) Tryz.func9 (by kernel_rfl)
    (of_decide_eq_true (by kernel_rfl)) (by unfold Func.isWrapper; first | (rw [if_pos (by decide +kernel)]; kernel_rfl) | (rw [if_neg (by decide +kernel)]; exact ⟨rfl, rfl⟩))
    (fun os started H enc _ => row_lifted os started H enc)
theorem stand (j : Nat) (t : TypeId) (ht : Tryz.f9.params[j]? = some t) : Tryz.prog.wantsStandIn t = false := by
  have h : (Tryz.f9.params.toList.all fun t => !Tryz.prog.wantsStandIn t) = true := by kernel_rfl
  have := List.all_eq_true.1 h t (List.mem_of_getElem? (i := j) (by simpa using ht))
  simpa using this
theorem card : Rows.RootDecidesCardSaid :=
  Claim7.holds_tied_plain_at .later [] [.data, .data, .data, .sentinel, .sentinel] true (true, "ccefe64f8d04dc07a6ff93fb371ea52ce7235b2895dac858a5feb0bb8b9fbed9") true
    row_holds (fun _ h => by cases h) (by kernel_rfl) (fun _ h => by cases h) rootDecides_row_tie rfl ⟨rfl, rfl⟩ (by kernel_rfl) rfl
    (fun f fn hf hfn => by
      obtain rfl : f = 9 := Option.some.inj ((show Tryz.prog.funcNamed "garboard/garboardlaw05.RootDecides" = some 9 by kernel_rfl).symm.trans hf) |>.symm
      obtain rfl : fn = Tryz.f9 := (Option.some.inj (Tryz.func9.symm.trans hfn)).symm
      exact ⟨by kernel_rfl, stand⟩)
    (by kernel_rfl)
end Go.Proofs.YthhefojkkgjcfaaGreatDoor.S
