/- A part of a proof; the last text of this claim says of what. -/
import Derived.Test.YthhefojkkgjcfaaGreatDoorV27
set_option linter.unusedVariables false
set_option linter.unusedSimpArgs false
set_option linter.unusedSectionVars false
namespace Gb
open Go Go.RowKit Go.Sx
noncomputable def exactP (l : List UInt8) : PV :=
  if isRat l then (if ratOf l < 0 then .tup [strP [], .val (.bool false), iP 2] else
    if rt (ratOf l).num.natAbs * rt (ratOf l).num.natAbs = (ratOf l).num.natAbs ∧ rt (ratOf l).den * rt (ratOf l).den = (ratOf l).den then
      .tup [rtP (Rat.divInt (rt (ratOf l).num.natAbs) (rt (ratOf l).den)), .val (.bool true), iP 0]
    else .tup [strP [], .val (.bool false), iP 0]) else .tup [strP [], .val (.bool false), iP 1]
def gx (i k n : Nat) : PV := if k < i then dP n else strP []
theorem dec_beq (a b : Nat) : (Lib.decDigits a == Lib.decDigits b) = decide (a = b) := by
  by_cases h : a = b
  · subst h; simp
  · rw [decide_eq_false h, beq_eq_false_iff_ne]
    intro e
    refine h ?_
    have := congrArg natOf e
    rwa [natOf_dec, natOf_dec] at this
theorem vcIf_not {b : Bool} {A B : Prop} (h1 : b = true → B) (h0 : b = false → A) : vcIf (!b) A B := by
  cases b
  · exact h0 rfl
  · exact h1 rfl
theorem check_one (l : List UInt8) : checkI [] [l] 1 = if isRat l then (if ratOf l < 0 then 2 else 0) else 1 := by
  unfold checkI; simp
end Gb
namespace Go.Proofs.YthhefojkkgjcfaaGreatDoor.S
open Go Go.Sx Go.RowKit Gb Go.Shelf
set_option maxRecDepth 100000 in
set_option maxHeartbeats 4000000 in
theorem xexact_n (l : List UInt8) (hl : l.length < 36000) : Meets Tryz.prog Gd 12 [strP l] (exactP l) := by
  refine meets_of_vc (Y := { bw := [1], fl := [42] }) (N := 65) (rs := [.tmp 2, .tmp 3, .tmp 4]) mix tk gd Tryz.func12 rfl (by kernel_rfl) rfl rfl (by simp) (by kernel_rfl) ?_
  have hc := check_fl [] [l] 1 (by simp) (by simp) (by simp) (by simpa using by omega)
  rw [check_one] at hc
  unfold exactP
  simp (maxSteps := 10000000) only [↓sx, sx, ↓ty, ↓reduceIte, Nat.reduceEqDiff, Nat.reduceBeqDiff, Nat.reduceAdd, Nat.reduceLeDiff, Nat.reduceLT, Nat.reduceMul, Nat.reduceSub, Int.reduceEq, Int.reduceBNe, Int.reduceBEq, ne_eq, not_false_eq_true, pc, ls, bs, and_true, true_and, and_self, Nat.reduceAdd, Nat.le_refl, leafP]
  refine CallT.mk (t := ⟨⟩) hc ?_
  cases h : isRat l with
  | false =>
    simp only [Bool.false_eq_true, if_false]
    simp (maxSteps := 10000000) only [↓sx, sx, ↓ty, ↓reduceIte, Nat.reduceEqDiff, Nat.reduceBeqDiff, Nat.reduceAdd, Nat.reduceLeDiff, Nat.reduceLT, Nat.reduceMul, Nat.reduceSub, Int.reduceEq, Int.reduceBNe, Int.reduceBEq, ne_eq, not_false_eq_true, pc, ls, bs, and_true, true_and, and_self, Nat.reduceAdd, Nat.le_refl, leafP]
  | true =>
    rw [if_pos rfl, if_pos rfl]
    by_cases h0 : ratOf l < 0
    · rw [if_pos h0, if_pos h0]
      simp (maxSteps := 10000000) only [↓sx, sx, ↓ty, ↓reduceIte, Nat.reduceEqDiff, Nat.reduceBeqDiff, Nat.reduceAdd, Nat.reduceLeDiff, Nat.reduceLT, Nat.reduceMul, Nat.reduceSub, Int.reduceEq, Int.reduceBNe, Int.reduceBEq, ne_eq, not_false_eq_true, pc, ls, bs, and_true, true_and, and_self, Nat.reduceAdd, Nat.le_refl, leafP]
    · simp only [if_neg h0]
      simp (maxSteps := 10000000) only [↓sx, sx, ↓ty, ↓reduceIte, Nat.reduceEqDiff, Nat.reduceBeqDiff, Nat.reduceAdd, Nat.reduceLeDiff, Nat.reduceLT, Nat.reduceMul, Nat.reduceSub, Int.reduceEq, Int.reduceBNe, Int.reduceBEq, ne_eq, not_false_eq_true, pc, ls, bs, and_true, true_and, and_self, Nat.reduceAdd, Nat.le_refl, leafP]
      have hp := parts_n l (by omega)
      unfold rpartsP at hp
      obtain ⟨p, hpn⟩ : ∃ p : Nat, (ratOf l).num = (p : Int) := ⟨(ratOf l).num.toNat, by have := Rat.num_nonneg.2 (Rat.not_lt.1 h0); omega⟩
      have sz : Sz 4002 (ratOf l) := Sz.of h (by omega)
      have lp : Lw p < 4003 := by have := sz.1; rw [hpn] at this; simpa using Nat.lt_of_le_of_lt this (by omega)
      have lq : Lw (ratOf l).den < 4003 := by have := sz.2; omega
      have q0 := (ratOf l).den_nz
      rw [h, if_pos rfl, hpn, siP_nat] at hp
      rw [hpn, Int.natAbs_natCast]
      generalize (ratOf l).den = q at *
      have rp := rt_spec p
      have rq := rt_spec q
      generalize rt p = u at *
      generalize rt q = v at *
      refine CallT.mk (t := ⟨⟩) hp ?_
      simp (maxSteps := 10000000) only [↓sx, sx, ↓ty, ↓reduceIte, Nat.reduceEqDiff, Nat.reduceBeqDiff, Nat.reduceAdd, Nat.reduceLeDiff, Nat.reduceLT, Nat.reduceMul, Nat.reduceSub, Int.reduceEq, Int.reduceBNe, Int.reduceBEq, ne_eq, not_false_eq_true, pc, ls, bs, and_true, true_and, and_self, Nat.reduceAdd, Nat.le_refl, leafP]
      refine loopK_of (fun i : Nat => [(9, .box 9 0), (30, .p (.agg [dP p, dP q])), (31, .p (.val (.int .i64 (i : Nat))))]) (fun i => [(9, (61, [gx i 0 u, gx i 1 v]))]) (fun _ => []) (fun i => i ≤ 2 ∧ (1 ≤ i → u * u = p) ∧ (2 ≤ i → v * v = q)) (fun i => 2 - i) 0 ⟨by omega, by omega, by omega⟩ ?_ ?_
      · simp (maxSteps := 10000000) only [isE_nil, is_cons, bo_p, bo_box, bo_orow, bo_rowp, any_cons', all_cons', all_nil', Bool.true_or, Bool.or_true, ↓sx, sx, ↓reduceIte, Nat.reduceEqDiff, Nat.reduceBeqDiff]
        exact ⟨rfl, rfl, rfl⟩
      · rintro i ⟨h1, h2, h3⟩
        have t1 : Int.toNat 1 = 1 := rfl
        have c0 : ((0 : Nat) : Int) = 0 := rfl
        have c1 : ((1 : Nat) : Int) = 1 := rfl
        have c2 : ((2 : Nat) : Int) = 2 := rfl
        have d0 : decide ((0 : Int) < 2) = true := by decide
        have d1 : decide ((1 : Int) < 2) = true := by decide
        have d2 : decide ((2 : Int) < 2) = false := by decide
        obtain rfl | rfl | rfl : i = 0 ∨ i = 1 ∨ i = 2 := by omega
        · have g0 : gx 0 0 u = strP [] := rfl
          have g1 : gx 0 1 v = strP [] := rfl
          simp (maxSteps := 10000000) only [↓sx, sx, ↓ty, ↓reduceIte, Nat.reduceEqDiff, Nat.reduceBeqDiff, Nat.reduceAdd, Nat.reduceLeDiff, Nat.reduceLT, Nat.reduceMul, Nat.reduceSub, Int.reduceEq, Int.reduceBNe, Int.reduceBEq, ne_eq, not_false_eq_true, pc, ls, bs, and_true, true_and, and_self, Nat.reduceAdd, Nat.le_refl, leafP, c0, d0, g0, g1]
          refine ⟨by decide, ?_⟩
          refine CallT.mk (t := ⟨⟩) (nroot_n p u (by omega) rp) ?_
          simp (maxSteps := 10000000) only [↓sx, sx, ↓ty, ↓reduceIte, Nat.reduceEqDiff, Nat.reduceBeqDiff, Nat.reduceAdd, Nat.reduceLeDiff, Nat.reduceLT, Nat.reduceMul, Nat.reduceSub, Int.reduceEq, Int.reduceBNe, Int.reduceBEq, ne_eq, not_false_eq_true, pc, ls, bs, and_true, true_and, and_self, Nat.reduceAdd, Nat.le_refl, leafP]
          refine ⟨by decide, by decide, by decide, ?_⟩
          refine CallT.mk (t := ⟨⟩) (nmul_n u u (by have := Lw_root rp.1; omega) (by have := Lw_root rp.1; omega)) ?_
          simp (maxSteps := 10000000) only [↓sx, sx, ↓ty, ↓reduceIte, Nat.reduceEqDiff, Nat.reduceBeqDiff, Nat.reduceAdd, Nat.reduceLeDiff, Nat.reduceLT, Nat.reduceMul, Nat.reduceSub, Int.reduceEq, Int.reduceBNe, Int.reduceBEq, ne_eq, not_false_eq_true, pc, ls, bs, and_true, true_and, and_self, Nat.reduceAdd, Nat.le_refl, leafP, dec_beq]
          refine vcIf_not (fun he => ?_) (fun he => ?_)
          · refine NextK.mk 1 (by omega) ⟨by omega, fun _ => by simpa using he, by omega⟩ ?_
            simp (maxSteps := 10000000) only [isE_nil, is_cons, bo_p, bo_box, bo_orow, bo_rowp, any_cons', all_cons', all_nil', Bool.true_or, Bool.or_true, ↓sx, sx, ↓reduceIte, Nat.reduceEqDiff, Nat.reduceBeqDiff]
            exact ⟨rfl, rfl, rfl⟩
          · (try try rw [if_neg h0]); rw [if_neg]
            rintro ⟨k1, k2⟩
            simp [k1] at he
        · have g0 : gx 1 0 u = dP u := rfl
          have g1 : gx 1 1 v = strP [] := rfl
          simp (maxSteps := 10000000) only [↓sx, sx, ↓ty, ↓reduceIte, Nat.reduceEqDiff, Nat.reduceBeqDiff, Nat.reduceAdd, Nat.reduceLeDiff, Nat.reduceLT, Nat.reduceMul, Nat.reduceSub, Int.reduceEq, Int.reduceBNe, Int.reduceBEq, ne_eq, not_false_eq_true, pc, ls, bs, and_true, true_and, and_self, Nat.reduceAdd, Nat.le_refl, leafP, c1, d1, g0, g1]
          refine ⟨by decide, ?_⟩
          refine CallT.mk (t := ⟨⟩) (nroot_n q v (by omega) rq) ?_
          simp (maxSteps := 10000000) only [↓sx, sx, ↓ty, ↓reduceIte, Nat.reduceEqDiff, Nat.reduceBeqDiff, Nat.reduceAdd, Nat.reduceLeDiff, Nat.reduceLT, Nat.reduceMul, Nat.reduceSub, Int.reduceEq, Int.reduceBNe, Int.reduceBEq, ne_eq, not_false_eq_true, pc, ls, bs, and_true, true_and, and_self, Nat.reduceAdd, Nat.le_refl, leafP, t1]
          refine ⟨by decide, by decide, by decide, ?_⟩
          refine CallT.mk (t := ⟨⟩) (nmul_n v v (by have := Lw_root rq.1; omega) (by have := Lw_root rq.1; omega)) ?_
          simp (maxSteps := 10000000) only [↓sx, sx, ↓ty, ↓reduceIte, Nat.reduceEqDiff, Nat.reduceBeqDiff, Nat.reduceAdd, Nat.reduceLeDiff, Nat.reduceLT, Nat.reduceMul, Nat.reduceSub, Int.reduceEq, Int.reduceBNe, Int.reduceBEq, ne_eq, not_false_eq_true, pc, ls, bs, and_true, true_and, and_self, Nat.reduceAdd, Nat.le_refl, leafP, dec_beq]
          refine vcIf_not (fun he => ?_) (fun he => ?_)
          · refine NextK.mk 2 (by omega) ⟨by omega, fun _ => h2 (by omega), fun _ => by simpa using he⟩ ?_
            simp (maxSteps := 10000000) only [isE_nil, is_cons, bo_p, bo_box, bo_orow, bo_rowp, any_cons', all_cons', all_nil', Bool.true_or, Bool.or_true, ↓sx, sx, ↓reduceIte, Nat.reduceEqDiff, Nat.reduceBeqDiff]
            exact ⟨rfl, rfl⟩
          · (try try rw [if_neg h0]); rw [if_neg]
            rintro ⟨k1, k2⟩
            simp [k2] at he
        · have g0 : gx 2 0 u = dP u := rfl
          have g1 : gx 2 1 v = dP v := rfl
          simp (maxSteps := 10000000) only [↓sx, sx, ↓ty, ↓reduceIte, Nat.reduceEqDiff, Nat.reduceBeqDiff, Nat.reduceAdd, Nat.reduceLeDiff, Nat.reduceLT, Nat.reduceMul, Nat.reduceSub, Int.reduceEq, Int.reduceBNe, Int.reduceBEq, ne_eq, not_false_eq_true, pc, ls, bs, and_true, true_and, and_self, Nat.reduceAdd, Nat.le_refl, leafP, c2, d2, g0, g1, t1]
          refine ⟨by decide, by decide, ?_⟩
          have v0 : (v : Int) ≠ 0 := by
            intro hv
            have : v = 0 := by omega
            subst this
            have := rq.2
            have := h3 (by omega)
            omega
          have mk := rmake_q u v (by have := Lw_root rp.1; simp; omega) (by have := Lw_root rq.1; simp; omega) v0
          rw [siP_nat, siP_nat] at mk
          refine CallT.mk (t := ⟨⟩) mk ?_
          simp (maxSteps := 10000000) only [↓sx, sx, ↓ty, ↓reduceIte, Nat.reduceEqDiff, Nat.reduceBeqDiff, Nat.reduceAdd, Nat.reduceLeDiff, Nat.reduceLT, Nat.reduceMul, Nat.reduceSub, Int.reduceEq, Int.reduceBNe, Int.reduceBEq, ne_eq, not_false_eq_true, pc, ls, bs, and_true, true_and, and_self, Nat.reduceAdd, Nat.le_refl, leafP]
          (try try rw [if_neg h0]); rw [if_pos ⟨h2 (by omega), h3 (by omega)⟩]
end Go.Proofs.YthhefojkkgjcfaaGreatDoor.S
