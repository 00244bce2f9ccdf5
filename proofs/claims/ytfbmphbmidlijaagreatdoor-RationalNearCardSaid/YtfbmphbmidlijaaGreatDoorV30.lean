/- A part of a proof; the last text of this claim says of what. -/
import Derived.Test.YtfbmphbmidlijaaGreatDoorV29
set_option linter.unusedVariables false
set_option linter.unusedSimpArgs false
set_option linter.unusedSectionVars false
namespace Gb
open Go Go.RowKit Go.Sx
end Gb
namespace Go.Proofs.YtfbmphbmidlijaaGreatDoor.S
open Go Go.Sx Go.RowKit Gb Go.Shelf
end Go.Proofs.YtfbmphbmidlijaaGreatDoor.S
namespace Gb
open Go Go.RowKit Go.Sx
end Gb
namespace Go.Proofs.YtfbmphbmidlijaaGreatDoor.S
open Go Go.Sx Go.RowKit Gb Go.Shelf
end Go.Proofs.YtfbmphbmidlijaaGreatDoor.S
namespace Gb
open Go Go.RowKit Go.Sx
end Gb
namespace Go.Proofs.YtfbmphbmidlijaaGreatDoor.S
open Go Go.Sx Go.RowKit Gb Go.Shelf
end Go.Proofs.YtfbmphbmidlijaaGreatDoor.S
namespace Gb
open Go Go.RowKit Go.Sx
theorem norm_div (p : Int) (d : Nat) (hd : d ≠ 0) : Rat.normalize p d hd = (p : Rat) / (d : Rat) := by
  rw [Rat.normalize_eq_mkRat, Rat.mkRat_eq_div]
end Gb
namespace Go.Proofs.YtfbmphbmidlijaaGreatDoor.S
open Go Go.Sx Go.RowKit Gb Go.Shelf
set_option maxRecDepth 100000 in
theorem frac3_n (n : Int) (h1 : 1 ≤ n) (h2 : n ≤ 1000000000) : Meets Tryz.prog Gd 80 [iP 1, iP n] (qP (1 / (n : Rat))) := by
  refine meets_of_vc (Y := {}) (N := 11) (rs := [.cell 4 66]) mix tk gd Tryz.func80 rfl (by kernel_rfl) rfl rfl (by simp) (by kernel_rfl) ?_
  obtain ⟨m, rfl⟩ : ∃ m : Nat, n = (m : Int) := ⟨n.toNat, by omega⟩
  simp (maxSteps := 10000000) only [↓sx, sx, ↓ty, ↓reduceIte, Nat.reduceEqDiff, Nat.reduceBeqDiff, Nat.reduceAdd, Nat.reduceLeDiff, Nat.reduceLT, Nat.reduceMul, Nat.reduceSub, Int.reduceEq, Int.reduceBNe, Int.reduceBEq, ne_eq, not_false_eq_true, pc, ls, bs, and_true, true_and, and_self, Nat.reduceAdd, Nat.le_refl, leafP, pi, pj]
  refine CallT.mk (t := ⟨⟩) (small2_n gd 1 (by omega) (by omega)) ?_
  simp (maxSteps := 10000000) only [↓sx, sx, ↓ty, ↓reduceIte, Nat.reduceEqDiff, Nat.reduceBeqDiff, Nat.reduceAdd, Nat.reduceLeDiff, Nat.reduceLT, Nat.reduceMul, Nat.reduceSub, Int.reduceEq, Int.reduceBNe, Int.reduceBEq, ne_eq, not_false_eq_true, pc, ls, bs, and_true, true_and, and_self, Nat.reduceAdd, Nat.le_refl, leafP, pi, pj, u32_nat (show m < 4294967296 by omega)]
  refine CallT.mk (t := ⟨⟩) (small_n gd m (by omega)) ?_
  simp (maxSteps := 10000000) only [↓sx, sx, ↓ty, ↓reduceIte, Nat.reduceEqDiff, Nat.reduceBeqDiff, Nat.reduceAdd, Nat.reduceLeDiff, Nat.reduceLT, Nat.reduceMul, Nat.reduceSub, Int.reduceEq, Int.reduceBNe, Int.reduceBEq, ne_eq, not_false_eq_true, pc, ls, bs, and_true, true_and, and_self, Nat.reduceAdd, Nat.le_refl, leafP, pi, pj]
  refine CallT.to (t := ⟨⟩) (lowest_q gd 1 m (1 / ((m : Int) : Rat)) (by omega) (Nat.lt_of_le_of_lt (Lw_le (k := 1) (by decide)) (by decide)) (Nat.lt_of_le_of_lt (Lw_le (k := 2) (by show m < 1000000000 ^ 2; omega)) (by decide)) (by rw [norm_div]; rfl)) rfl ?_
  simp (maxSteps := 10000000) only [↓sx, sx, ↓ty, ↓reduceIte, Nat.reduceEqDiff, Nat.reduceBeqDiff, Nat.reduceAdd, Nat.reduceLeDiff, Nat.reduceLT, Nat.reduceMul, Nat.reduceSub, Int.reduceEq, Int.reduceBNe, Int.reduceBEq, ne_eq, not_false_eq_true, pc, ls, bs, and_true, true_and, and_self, Nat.reduceAdd, Nat.le_refl, leafP, pi, pj]
end Go.Proofs.YtfbmphbmidlijaaGreatDoor.S
namespace Gb
open Go Go.RowKit Go.Sx
def absQ (x : Rat) : Rat := if x.num < 0 then -x else x
theorem absQ_parts (x : Rat) : (absQ x).num = x.num.natAbs ∧ (absQ x).den = x.den := by
  unfold absQ
  split
  · rw [Rat.neg_num, Rat.neg_den]; exact ⟨by omega, rfl⟩
  · exact ⟨by omega, rfl⟩
theorem q_abs (x : Rat) : qP (absQ x) = .agg [.val (.bool false), nP x.num.natAbs, nP x.den] := by
  unfold qP
  rw [(absQ_parts x).1, (absQ_parts x).2, Int.natAbs_natCast, decide_eq_false (by omega)]
theorem floor_eq {y : Rat} {s : Int} (h1 : (s : Rat) ≤ y) (h2 : y < (s : Rat) + 1) : y.floor = s := by
  have a1 := Rat.le_floor_iff.2 h1
  have a2 : y.floor < s + 1 := Rat.floor_lt_iff.2 (by push_cast; exact h2)
  omega
theorem decS_floor (x : Rat) (n : Nat) : (absQ x * ((10 ^ n : Nat) : Rat) + 1 / ((2 : Int) : Rat)).floor = (decS x n : Nat) := by
  obtain ⟨h1, h2⟩ := absQ_parts x
  have hd := den_pos (absQ x)
  have e := mul_den (absQ x)
  rw [h1] at e
  rw [h2] at e hd
  have hm := Nat.div_add_mod (x.num.natAbs * 10 ^ n * 2 + x.den) (x.den * 2)
  have hlt := Nat.mod_lt (x.num.natAbs * 10 ^ n * 2 + x.den) (show 0 < x.den * 2 by have := x.den_nz; omega)
  unfold decS
  generalize (x.num.natAbs * 10 ^ n * 2 + x.den) / (x.den * 2) = s at *
  generalize (x.num.natAbs * 10 ^ n * 2 + x.den) % (x.den * 2) = r at *
  have hq : ((x.den : Rat) * 2) * (s : Rat) + (r : Rat) = ((x.num.natAbs : Nat) : Rat) * ((10 ^ n : Nat) : Rat) * 2 + x.den := by
    have := congrArg (fun m : Nat => (m : Rat)) hm
    push_cast at this ⊢
    exact this
  have hr0 : (0 : Rat) ≤ (r : Rat) := by exact_mod_cast (show (0 : Int) ≤ (r : Int) by omega)
  have hr1 : (r : Rat) < (x.den : Rat) * 2 := by exact_mod_cast hlt
  have e' : absQ x * (x.den : Rat) = ((x.num.natAbs : Nat) : Rat) := by rw [e]; rfl
  have half : 1 / ((2 : Int) : Rat) * 2 = 1 := by decide +kernel
  generalize 1 / ((2 : Int) : Rat) = hf at *
  generalize ((10 ^ n : Nat) : Rat) = t at *
  generalize absQ x = a at *
  generalize (x.den : Rat) = d at *
  rw [← e'] at hq
  have key : (a * t + hf) * (d * 2) = d * 2 * (s : Rat) + r := by grind
  have hd2 : 0 < d * 2 := by grind
  refine floor_eq ?_ ?_
  · show ((s : Int) : Rat) ≤ _
    refine Rat.not_lt.1 fun c => ?_
    have := Rat.mul_pos (show 0 < (s : Rat) - (a * t + hf) by have : ((s : Int) : Rat) = (s : Rat) := rfl; grind) hd2
    grind
  · show _ < ((s : Int) : Rat) + 1
    refine Rat.not_le.1 fun c => ?_
    have := Rat.mul_nonneg (show 0 ≤ (a * t + hf) - ((s : Rat) + 1) by have : ((s : Int) : Rat) = (s : Rat) := rfl; grind) (show 0 ≤ d * 2 by grind)
    grind
end Gb
namespace Go.Proofs.YtfbmphbmidlijaaGreatDoor.S
open Go Go.Sx Go.RowKit Gb Go.Shelf
set_option maxRecDepth 100000 in
set_option maxHeartbeats 8000000 in
theorem decimalq_n (l : List UInt8) (n : Int) (hl : l.length < 30000) : Meets Tryz.prog Gd 32 [strP l, iP n] (rdecP l n) := by
  refine meets_of_vc (Y := {}) (N := 82) (rs := [.tmp 4, .tmp 5]) mix tk gd Tryz.func32 rfl (by kernel_rfl) rfl rfl (by simp) (by kernel_rfl) ?_
  have f1 := from3_n gd l (by omega)
  unfold rdecP
  cases h : isRat l with
  | false =>
    rw [h] at f1
    simp only [Bool.false_eq_true, if_false] at f1 ⊢
    simp (maxSteps := 10000000) only [↓sx, sx, ↓ty, ↓reduceIte, Nat.reduceEqDiff, Nat.reduceBeqDiff, Nat.reduceAdd, Nat.reduceLeDiff, Nat.reduceLT, Nat.reduceMul, Nat.reduceSub, Int.reduceEq, Int.reduceBNe, Int.reduceBEq, ne_eq, not_false_eq_true, pc, ls, bs, and_true, true_and, and_self, Nat.reduceAdd, Nat.le_refl, leafP, qP_c]
    refine CallT.mk f1 ?_
    simp (maxSteps := 10000000) only [↓sx, sx, ↓ty, ↓reduceIte, Nat.reduceEqDiff, Nat.reduceBeqDiff, Nat.reduceAdd, Nat.reduceLeDiff, Nat.reduceLT, Nat.reduceMul, Nat.reduceSub, Int.reduceEq, Int.reduceBNe, Int.reduceBEq, ne_eq, not_false_eq_true, pc, ls, bs, and_true, true_and, and_self, Nat.reduceAdd, Nat.le_refl, leafP, qP_c]
  | true =>
    rw [h] at f1
    simp only [if_true] at f1 ⊢
    have sx0 := (Sz.of h (k := 3999) (by omega))
    have z1 := sx0.1
    have z2 := sx0.2
    generalize ratOf l = x at *
    simp (maxSteps := 10000000) only [↓sx, sx, ↓ty, ↓reduceIte, Nat.reduceEqDiff, Nat.reduceBeqDiff, Nat.reduceAdd, Nat.reduceLeDiff, Nat.reduceLT, Nat.reduceMul, Nat.reduceSub, Int.reduceEq, Int.reduceBNe, Int.reduceBEq, ne_eq, not_false_eq_true, pc, ls, bs, and_true, true_and, and_self, Nat.reduceAdd, Nat.le_refl, leafP, qP_c]
    refine CallT.mk f1 ?_
    by_cases hn : n < 0 ∨ n > 64
    · rw [if_pos hn]
      have d0 : decide (n < 0) = true ∨ (decide (n < 0) = false ∧ decide (n > 64) = true) := by
        by_cases h0 : n < 0
        · exact .inl (decide_eq_true h0)
        · exact .inr ⟨decide_eq_false h0, decide_eq_true (by omega)⟩
      rcases d0 with d0 | ⟨d0, d1⟩
      · simp (maxSteps := 10000000) only [↓sx, sx, ↓ty, ↓reduceIte, Nat.reduceEqDiff, Nat.reduceBeqDiff, Nat.reduceAdd, Nat.reduceLeDiff, Nat.reduceLT, Nat.reduceMul, Nat.reduceSub, Int.reduceEq, Int.reduceBNe, Int.reduceBEq, ne_eq, not_false_eq_true, pc, ls, bs, and_true, true_and, and_self, Nat.reduceAdd, Nat.le_refl, leafP, qP_c, d0]
      · simp (maxSteps := 10000000) only [↓sx, sx, ↓ty, ↓reduceIte, Nat.reduceEqDiff, Nat.reduceBeqDiff, Nat.reduceAdd, Nat.reduceLeDiff, Nat.reduceLT, Nat.reduceMul, Nat.reduceSub, Int.reduceEq, Int.reduceBNe, Int.reduceBEq, ne_eq, not_false_eq_true, pc, ls, bs, and_true, true_and, and_self, Nat.reduceAdd, Nat.le_refl, leafP, qP_c, d0, d1]
    · rw [if_neg hn]
      obtain ⟨N, rfl⟩ : ∃ N : Nat, n = N := ⟨n.toNat, by omega⟩
      have hN : N ≤ 64 := by omega
      have d0 : decide ((N : Int) < 0) = false := decide_eq_false (by omega)
      have d1 : decide ((N : Int) > 64) = false := decide_eq_false (by omega)
      rw [show ((N : Int)).toNat = N from rfl]
      have lt := Lw_ten N
      have zt : Sz 4000 ((10 ^ N : Nat) : Rat) := Sz.int (z := ((10 ^ N : Nat) : Int)) (by rw [Int.natAbs_natCast]; omega) (by omega)
      have za : Sz 4000 (absQ x) := ⟨by rw [(absQ_parts x).1, Int.natAbs_natCast]; exact z1, by rw [(absQ_parts x).2]; exact z2⟩
      have zm := za.mul zt
      have s2 : Sz 8000 (1 / ((2 : Int) : Rat)) := by rw [Rat.div_def, Rat.one_mul]; exact Sz.inv (Sz.int (Nat.le_trans (Lw_le (k := 1) (by decide)) (by omega)) (by omega)) (by omega)
      have zs := zm.add s2
      have sm := small_n gd 10 (by omega)
      have pw := power_n gd N (by omega)
      have mk := make2_z gd false x.num.natAbs (x.num.natAbs : Int) (by unfold zmk; simp)
      have mk2 := make2_z gd false (10 ^ N) ((10 ^ N : Nat) : Int) (by unfold zmk; simp)
      have so := small_n gd 1 (by omega)
      have mu := mul3_n gd (absQ x) ((10 ^ N : Nat) : Rat) (za.mono (by omega)) (zt.mono (by omega))
      have fr := frac3_n 2 (by omega) (by omega)
      have ad := add3_n gd (absQ x * ((10 ^ N : Nat) : Rat)) (1 / ((2 : Int) : Rat)) (zm.mono (by omega)) (s2.mono (by omega))
      have wh := whole3_n gd (absQ x * ((10 ^ N : Nat) : Rat) + 1 / ((2 : Int) : Rat)) (zs.mono (by omega))
      have lfl := Lw_floor zs
      rw [decS_floor] at wh lfl
      rw [Int.natAbs_natCast] at lfl
      have toN := to1_n gd (decS x N) (by omega)
      have hdl := dec_len (decS x N)
      rw [q_abs, show (((10 ^ N : Nat)) : Rat) = (((10 ^ N : Nat) : Int) : Rat) from rfl, q_int] at mu
      simp (maxSteps := 10000000) only [↓sx, sx, ↓ty, ↓reduceIte, Nat.reduceEqDiff, Nat.reduceBeqDiff, Nat.reduceAdd, Nat.reduceLeDiff, Nat.reduceLT, Nat.reduceMul, Nat.reduceSub, Int.reduceEq, Int.reduceBNe, Int.reduceBEq, ne_eq, not_false_eq_true, pc, ls, bs, and_true, true_and, and_self, Nat.reduceAdd, Nat.le_refl, leafP, qP_c, d0, d1]
      refine CallT.mk sm ?_
      simp (maxSteps := 10000000) only [↓sx, sx, ↓ty, ↓reduceIte, Nat.reduceEqDiff, Nat.reduceBeqDiff, Nat.reduceAdd, Nat.reduceLeDiff, Nat.reduceLT, Nat.reduceMul, Nat.reduceSub, Int.reduceEq, Int.reduceBNe, Int.reduceBEq, ne_eq, not_false_eq_true, pc, ls, bs, and_true, true_and, and_self, Nat.reduceAdd, Nat.le_refl, leafP, qP_c]
      refine CallT.mk pw ?_
      simp (maxSteps := 10000000) only [↓sx, sx, ↓ty, ↓reduceIte, Nat.reduceEqDiff, Nat.reduceBeqDiff, Nat.reduceAdd, Nat.reduceLeDiff, Nat.reduceLT, Nat.reduceMul, Nat.reduceSub, Int.reduceEq, Int.reduceBNe, Int.reduceBEq, ne_eq, not_false_eq_true, pc, ls, bs, and_true, true_and, and_self, Nat.reduceAdd, Nat.le_refl, leafP, qP_c]
      refine CallT.mk mk ?_
      simp (maxSteps := 10000000) only [↓sx, sx, ↓ty, ↓reduceIte, Nat.reduceEqDiff, Nat.reduceBeqDiff, Nat.reduceAdd, Nat.reduceLeDiff, Nat.reduceLT, Nat.reduceMul, Nat.reduceSub, Int.reduceEq, Int.reduceBNe, Int.reduceBEq, ne_eq, not_false_eq_true, pc, ls, bs, and_true, true_and, and_self, Nat.reduceAdd, Nat.le_refl, leafP, qP_c, zP_c]
      refine CallT.mk mk2 ?_
      simp (maxSteps := 10000000) only [↓sx, sx, ↓ty, ↓reduceIte, Nat.reduceEqDiff, Nat.reduceBeqDiff, Nat.reduceAdd, Nat.reduceLeDiff, Nat.reduceLT, Nat.reduceMul, Nat.reduceSub, Int.reduceEq, Int.reduceBNe, Int.reduceBEq, ne_eq, not_false_eq_true, pc, ls, bs, and_true, true_and, and_self, Nat.reduceAdd, Nat.le_refl, leafP, qP_c, zP_c]
      refine CallT.mk so ?_
      simp (maxSteps := 10000000) only [↓sx, sx, ↓ty, ↓reduceIte, Nat.reduceEqDiff, Nat.reduceBeqDiff, Nat.reduceAdd, Nat.reduceLeDiff, Nat.reduceLT, Nat.reduceMul, Nat.reduceSub, Int.reduceEq, Int.reduceBNe, Int.reduceBEq, ne_eq, not_false_eq_true, pc, ls, bs, and_true, true_and, and_self, Nat.reduceAdd, Nat.le_refl, leafP, qP_c, zP_c, nP_c]
      refine CallT.to mu rfl ?_
      simp (maxSteps := 10000000) only [↓sx, sx, ↓ty, ↓reduceIte, Nat.reduceEqDiff, Nat.reduceBeqDiff, Nat.reduceAdd, Nat.reduceLeDiff, Nat.reduceLT, Nat.reduceMul, Nat.reduceSub, Int.reduceEq, Int.reduceBNe, Int.reduceBEq, ne_eq, not_false_eq_true, pc, ls, bs, and_true, true_and, and_self, Nat.reduceAdd, Nat.le_refl, leafP, qP_c, zP_c, nP_c]
      refine CallT.mk fr ?_
      simp (maxSteps := 10000000) only [↓sx, sx, ↓ty, ↓reduceIte, Nat.reduceEqDiff, Nat.reduceBeqDiff, Nat.reduceAdd, Nat.reduceLeDiff, Nat.reduceLT, Nat.reduceMul, Nat.reduceSub, Int.reduceEq, Int.reduceBNe, Int.reduceBEq, ne_eq, not_false_eq_true, pc, ls, bs, and_true, true_and, and_self, Nat.reduceAdd, Nat.le_refl, leafP, qP_c, zP_c, nP_c]
      refine CallT.mk ad ?_
      simp (maxSteps := 10000000) only [↓sx, sx, ↓ty, ↓reduceIte, Nat.reduceEqDiff, Nat.reduceBeqDiff, Nat.reduceAdd, Nat.reduceLeDiff, Nat.reduceLT, Nat.reduceMul, Nat.reduceSub, Int.reduceEq, Int.reduceBNe, Int.reduceBEq, ne_eq, not_false_eq_true, pc, ls, bs, and_true, true_and, and_self, Nat.reduceAdd, Nat.le_refl, leafP, qP_c, zP_c, nP_c]
      refine CallT.mk wh ?_
      simp (maxSteps := 10000000) only [↓sx, sx, ↓ty, ↓reduceIte, Nat.reduceEqDiff, Nat.reduceBeqDiff, Nat.reduceAdd, Nat.reduceLeDiff, Nat.reduceLT, Nat.reduceMul, Nat.reduceSub, Int.reduceEq, Int.reduceBNe, Int.reduceBEq, ne_eq, not_false_eq_true, pc, ls, bs, and_true, true_and, and_self, Nat.reduceAdd, Nat.le_refl, leafP, qP_c, zP_c, nP_c]
      refine CallT.to toN (by rw [Int.natAbs_natCast]; rfl) ?_
      unfold decT dotT
      generalize decS x N = s at *
      obtain ⟨L, hL⟩ : ∃ L, L = (Lib.decDigits s).length := ⟨_, rfl⟩
      rw [← hL] at hdl
      simp (maxSteps := 10000000) only [↓sx, sx, ↓ty, ↓reduceIte, Nat.reduceEqDiff, Nat.reduceBeqDiff, Nat.reduceAdd, Nat.reduceLeDiff, Nat.reduceLT, Nat.reduceMul, Nat.reduceSub, Int.reduceEq, Int.reduceBNe, Int.reduceBEq, ne_eq, not_false_eq_true, pc, ls, bs, and_true, true_and, and_self, Nat.reduceAdd, Nat.le_refl, leafP, qP_c, zP_c, nP_c]
      refine loopK_of (fun i : Nat => [(0, .p (strP l)), (1, .p (iP N)), (4, .p (strP [])), (5, .p (iP 0)), (6, .box 6 0), (7, .p (.val (.bool true))), (8, .p (nP (10 ^ N))), (9, .box 9 0), (10, .box 10 0), (11, .p (strP (List.replicate i 48 ++ Lib.decDigits s)))])
        (fun _ => [(6, (66, [.val (.bool (decide (x.num < 0))), .sl (wl x.num.natAbs).length ((wl x.num.natAbs).map wv), .sl (wl x.den).length ((wl x.den).map wv)])),
          (9, (66, [.val (.bool false), .sl (wl x.num.natAbs).length ((wl x.num.natAbs).map wv), .sl (wl x.den).length ((wl x.den).map wv)])),
          (10, (61, [.val (.bool false), .sl (wl s).length ((wl s).map wv)]))]) (fun _ => []) (fun i => i ≤ N + 1 - L) (fun i => N + 1 - L - i) 0 (Nat.zero_le _) ?_ ?_
      · simp (maxSteps := 10000000) only [isE_nil, is_cons, bo_p, bo_box, bo_orow, bo_rowp, any_cons', all_cons', all_nil', Bool.true_or, Bool.or_true, ↓sx, sx, ↓reduceIte, Nat.reduceEqDiff, Nat.reduceBeqDiff]
        rw [decide_eq_false (show ¬ ((x.num.natAbs : Nat) : Int) < 0 by omega), decide_eq_false (show ¬ ((s : Nat) : Int) < 0 by omega), Int.natAbs_natCast, Int.natAbs_natCast]
        exact ⟨rfl, rfl, rfl, rfl, rfl, rfl⟩
      · intro i hi
        have hlen : (List.replicate i 48 ++ Lib.decDigits s).length = i + L := by rw [List.length_append, List.length_replicate, ← hL]
        have wN : IntKind.i64.wrap ((N : Int) + 1) = ((N + 1 : Nat) : Int) := by rw [i64_id (by omega) (by omega)]; push_cast; rfl
        by_cases hil : i < N + 1 - L
        · have e1 : decide (((i + L : Nat) : Int) < ((N + 1 : Nat) : Int)) = true := decide_eq_true (by omega)
          simp (maxSteps := 10000000) only [↓sx, sx, ↓ty, ↓reduceIte, Nat.reduceEqDiff, Nat.reduceBeqDiff, Nat.reduceAdd, Nat.reduceLeDiff, Nat.reduceLT, Nat.reduceMul, Nat.reduceSub, Int.reduceEq, Int.reduceBNe, Int.reduceBEq, ne_eq, not_false_eq_true, pc, ls, bs, and_true, true_and, and_self, Nat.reduceAdd, Nat.le_refl, leafP, hlen, wN, e1]
          refine ⟨by omega, NextK.mk (i + 1) (by omega) (by omega) ?_⟩
          simp (maxSteps := 10000000) only [isE_nil, is_cons, bo_p, bo_box, bo_orow, bo_rowp, any_cons', all_cons', all_nil', Bool.true_or, Bool.or_true, ↓sx, sx, ↓reduceIte, Nat.reduceEqDiff, Nat.reduceBeqDiff]
          rw [show (48 : UInt8) :: (List.replicate i 48 ++ Lib.decDigits s) = List.replicate (i + 1) 48 ++ Lib.decDigits s from rfl]
          exact ⟨rfl, rfl, rfl, rfl, rfl, rfl⟩
        · obtain rfl : i = N + 1 - L := by omega
          have e1 : decide (((N + 1 - L + L : Nat) : Int) < ((N + 1 : Nat) : Int)) = false := decide_eq_false (by omega)
          obtain ⟨T1, hT1⟩ : ∃ T1, T1 = padT N (Lib.decDigits s) := ⟨_, rfl⟩
          have hpad : List.replicate (N + 1 - L) 48 ++ Lib.decDigits s = T1 := by rw [hT1, hL]; rfl
          have hTl : T1.length = max (N + 1) L := by rw [hT1, padT_len, hL]
          rw [hpad] at hlen ⊢
          have hL1 : 1 ≤ L := by
            have := (isNat_iff.1 (isNat_dec s)).1
            rw [hL]
            exact List.length_pos_iff.2 this
          have w5 : IntKind.i64.wrap ((T1.length : Int) - (N : Int)) = ((T1.length - N : Nat) : Int) := by rw [i64_id (by omega) (by omega)]; omega
          have w6 : (((T1.length - N : Nat) : Int)).toNat = T1.length - N := rfl
          have htk : List.take (T1.length - (T1.length - N)) (List.drop (T1.length - N) T1) = List.drop (T1.length - N) T1 := List.take_of_length_le (by rw [List.length_drop]; omega)
          have hl1 : (List.take (T1.length - N) T1).length = T1.length - N := by rw [List.length_take]; omega
          have hl2 : (List.drop (T1.length - N) T1).length = N := by rw [List.length_drop]; omega
          have hl3 : (List.take (T1.length - N) T1 ++ [46]).length = T1.length - N + 1 := by rw [List.length_append, hl1]; rfl
          have hl4 : (List.take (T1.length - N) T1 ++ [46] ++ List.drop (T1.length - N) T1).length = T1.length - N + 1 + N := by rw [List.length_append, hl3, hl2]
          have hws : decide (((wl s).length : Int) > 0) = decide (s ≠ 0) := by
            congr 1; apply propext
            have := Lw_zero_iff s
            unfold Lw at this
            omega
          rw [← hT1]
          have e1' : decide ((T1.length : Int) < ((N + 1 : Nat) : Int)) = false := decide_eq_false (by omega)
          by_cases hN0 : N = 0
          · subst hN0
            have d3 : decide (((0 : Nat) : Int) > 0) = false := by decide
            have hT2 : T1 = Lib.decDigits s := by
              rw [← hpad, show 0 + 1 - L = 0 by omega]; rfl
            rw [if_pos rfl, ← hT2]
            by_cases hz : x.num < 0
            · have d4 := decide_eq_true hz
              by_cases hs : s = 0
              · have d5 := hws.trans (decide_eq_false (by simpa using hs))
                rw [if_neg (by omega)]
                simp (maxSteps := 10000000) only [↓sx, sx, ↓ty, ↓reduceIte, Nat.reduceEqDiff, Nat.reduceBeqDiff, Nat.reduceAdd, Nat.reduceLeDiff, Nat.reduceLT, Nat.reduceMul, Nat.reduceSub, Int.reduceEq, Int.reduceBNe, Int.reduceBEq, ne_eq, not_false_eq_true, pc, ls, bs, and_true, true_and, and_self, Nat.reduceAdd, Nat.le_refl, leafP, wN, e1', d3, d4, d5, qP_c]
              · have d5 := hws.trans (decide_eq_true hs)
                rw [if_pos ⟨hz, hs⟩]
                simp (maxSteps := 10000000) only [↓sx, sx, ↓ty, ↓reduceIte, Nat.reduceEqDiff, Nat.reduceBeqDiff, Nat.reduceAdd, Nat.reduceLeDiff, Nat.reduceLT, Nat.reduceMul, Nat.reduceSub, Int.reduceEq, Int.reduceBNe, Int.reduceBEq, ne_eq, not_false_eq_true, pc, ls, bs, and_true, true_and, and_self, Nat.reduceAdd, Nat.le_refl, leafP, wN, e1', d3, d4, d5, qP_c]
                omega
            · have d4 := decide_eq_false hz
              rw [if_neg (by omega)]
              simp (maxSteps := 10000000) only [↓sx, sx, ↓ty, ↓reduceIte, Nat.reduceEqDiff, Nat.reduceBeqDiff, Nat.reduceAdd, Nat.reduceLeDiff, Nat.reduceLT, Nat.reduceMul, Nat.reduceSub, Int.reduceEq, Int.reduceBNe, Int.reduceBEq, ne_eq, not_false_eq_true, pc, ls, bs, and_true, true_and, and_self, Nat.reduceAdd, Nat.le_refl, leafP, wN, e1', d3, d4, qP_c]
          · have d3 : decide ((N : Int) > 0) = true := decide_eq_true (by omega)
            rw [if_neg hN0]
            by_cases hz : x.num < 0
            · have d4 := decide_eq_true hz
              by_cases hs : s = 0
              · have d5 := hws.trans (decide_eq_false (by simpa using hs))
                rw [if_neg (by omega)]
                simp (maxSteps := 10000000) only [↓sx, sx, ↓ty, ↓reduceIte, Nat.reduceEqDiff, Nat.reduceBeqDiff, Nat.reduceAdd, Nat.reduceLeDiff, Nat.reduceLT, Nat.reduceMul, Nat.reduceSub, Int.reduceEq, Int.reduceBNe, Int.reduceBEq, ne_eq, not_false_eq_true, pc, ls, bs, and_true, true_and, and_self, Nat.reduceAdd, Nat.le_refl, leafP, wN, e1', d3, d4, d5, w5, w6]
                rw [htk, hl1, hl3, hl2]
                refine ⟨?_, ?_, ?_, ?_, ?_⟩ <;> first | omega | rfl
              · have d5 := hws.trans (decide_eq_true hs)
                rw [if_pos ⟨hz, hs⟩]
                simp (maxSteps := 10000000) only [↓sx, sx, ↓ty, ↓reduceIte, Nat.reduceEqDiff, Nat.reduceBeqDiff, Nat.reduceAdd, Nat.reduceLeDiff, Nat.reduceLT, Nat.reduceMul, Nat.reduceSub, Int.reduceEq, Int.reduceBNe, Int.reduceBEq, ne_eq, not_false_eq_true, pc, ls, bs, and_true, true_and, and_self, Nat.reduceAdd, Nat.le_refl, leafP, wN, e1', d3, d4, d5, w5, w6]
                rw [htk, hl1, hl3, hl2, hl4]
                refine ⟨?_, ?_, ?_, ?_, ?_, ?_⟩ <;> first | omega | rfl
            · have d4 := decide_eq_false hz
              rw [if_neg (by omega)]
              simp (maxSteps := 10000000) only [↓sx, sx, ↓ty, ↓reduceIte, Nat.reduceEqDiff, Nat.reduceBeqDiff, Nat.reduceAdd, Nat.reduceLeDiff, Nat.reduceLT, Nat.reduceMul, Nat.reduceSub, Int.reduceEq, Int.reduceBNe, Int.reduceBEq, ne_eq, not_false_eq_true, pc, ls, bs, and_true, true_and, and_self, Nat.reduceAdd, Nat.le_refl, leafP, wN, e1', d3, d4, w5, w6]
              rw [htk, hl1, hl3, hl2]
              refine ⟨?_, ?_, ?_, ?_, ?_⟩ <;> first | omega | rfl
end Go.Proofs.YtfbmphbmidlijaaGreatDoor.S
namespace Gb
open Go Go.RowKit Go.Sx
theorem cutD_inv : ∀ s : List UInt8, ((cutD s).2.2 = true ∧ s = (cutD s).1 ++ 46 :: (cutD s).2.1 ∧ ∀ c ∈ (cutD s).1, c ≠ 46) ∨ ((cutD s).2.2 = false ∧ (cutD s).1 = s ∧ (cutD s).2.1 = [] ∧ ∀ c ∈ s, c ≠ 46)
  | [] => .inr ⟨rfl, rfl, rfl, by simp⟩
  | c :: r => by
    rw [cutD_cons]
    by_cases h : c = 46
    · subst h
      exact .inl ⟨rfl, rfl, by simp⟩
    · rw [if_neg h]
      rcases cutD_inv r with ⟨h1, h2, h3⟩ | ⟨h1, h2, h3, h4⟩
      · refine .inl ⟨h1, by show c :: r = c :: ((cutD r).1 ++ 46 :: (cutD r).2.1); rw [← h2], fun x hx => ?_⟩
        rcases List.mem_cons.1 hx with rfl | hx
        · exact h
        · exact h3 x hx
      · refine .inr ⟨h1, by show c :: (cutD r).1 = _; rw [h2], h3, fun x hx => ?_⟩
        rcases List.mem_cons.1 hx with rfl | hx
        · exact h
        · exact h4 x hx
theorem c46 (c : UInt8) : (((c.toNat : Nat) : Int) == 46) = (c == 46) := by
  by_cases h : c = 46
  · subst h; rfl
  · have h1 : (c == 46) = false := by simpa using h
    rw [h1, beq_eq_false_iff_ne]
    intro e
    exact h (UInt8.toNat_inj.1 (by show c.toNat = 46; omega))
theorem c45 (c : UInt8) : (((c.toNat : Nat) : Int) == 45) = (c == 45) := by
  by_cases h : c = 45
  · subst h; rfl
  · have h1 : (c == 45) = false := by simpa using h
    rw [h1, beq_eq_false_iff_ne]
    intro e
    exact h (UInt8.toNat_inj.1 (by show c.toNat = 45; omega))
theorem cD1 (c : UInt8) (h : isD c = true) : decide (((c.toNat : Nat) : Int) ≥ 48) = true ∧ decide (((c.toNat : Nat) : Int) ≤ 57) = true := by
  have := isD_iff.1 h
  exact ⟨decide_eq_true (by omega), decide_eq_true (by omega)⟩
theorem cD0 (c : UInt8) (h : isD c = false) : decide (((c.toNat : Nat) : Int) ≥ 48) = false ∨ (decide (((c.toNat : Nat) : Int) ≥ 48) = true ∧ decide (((c.toNat : Nat) : Int) ≤ 57) = false) := by
  by_cases h1 : 48 ≤ c.toNat
  · refine .inr ⟨decide_eq_true (by omega), decide_eq_false fun h2 => ?_⟩
    have := isD_iff.2 ⟨h1, by omega⟩
    rw [h] at this; cases this
  · exact .inl (decide_eq_false (by omega))
theorem digB_no {l : List UInt8} {c : UInt8} (hc : c ∈ l) (h : isD c = false) : digB l = false := by
  unfold digB
  rw [Bool.and_eq_false_iff]
  right
  cases ha : l.all isD with
  | false => rfl
  | true => have := List.all_eq_true.1 ha c hc; rw [h] at this; cases this
theorem one_at {s : List UInt8} {i : Nat} {c0 : UInt8} (h : s[i]? = some c0) : List.take (i + 1 - i) (List.drop i s) = [c0] := by
  obtain ⟨hi, rfl⟩ := List.getElem?_eq_some_iff.1 h
  rw [show i + 1 - i = 1 by omega, List.drop_eq_getElem_cons hi]; rfl
def dgS (w p : List UInt8) (i : Nat) : List UInt8 := if w.length < i then w ++ p.take (i - w.length - 1) else w.take i
def plS (w : List UInt8) (i : Nat) : Nat := if w.length < i then i - w.length - 1 else 0
theorem dgS_0 (w p : List UInt8) : dgS w p 0 = [] := by unfold dgS; rw [if_neg (by omega)]; rfl
theorem plS_0 (w : List UInt8) : plS w 0 = 0 := by unfold plS; rw [if_neg (by omega)]
theorem dgS_len (w p : List UInt8) (i : Nat) : (dgS w p i).length ≤ i := by
  unfold dgS
  split
  · rw [List.length_append, List.length_take]; omega
  · rw [List.length_take]; omega
theorem dgS_lo {w p : List UInt8} {i : Nat} {c0 : UInt8} (hi : i < w.length) (h : w[i]? = some c0) : dgS w p i ++ [c0] = dgS w p (i + 1) := by
  unfold dgS
  rw [if_neg (by omega), if_neg (by omega), List.take_add_one, h]; rfl
theorem dgS_hi {w p : List UInt8} {i : Nat} {c0 : UInt8} (hi : w.length < i) (h : p[i - w.length - 1]? = some c0) : dgS w p i ++ [c0] = dgS w p (i + 1) := by
  unfold dgS
  rw [if_pos hi, if_pos (by omega), show i + 1 - w.length - 1 = (i - w.length - 1) + 1 by omega, List.take_add_one, h, List.append_assoc]; rfl
theorem dgS_eq (w p : List UInt8) : dgS w p (w.length + 1) = dgS w p w.length := by
  unfold dgS
  rw [if_pos (by omega), if_neg (by omega), show w.length + 1 - w.length - 1 = 0 by omega, List.take_zero, List.append_nil, List.take_length]
theorem plS_eq (w : List UInt8) : plS w (w.length + 1) = plS w w.length := by unfold plS; rw [if_pos (by omega), if_neg (by omega)]; omega
theorem digB_yes {l : List UInt8} (h0 : l ≠ []) (h : ∀ x ∈ l, isD x = true) : digB l = true := by
  unfold digB
  rw [Bool.and_eq_true]
  refine ⟨by simpa using h0, List.all_eq_true.2 h⟩
theorem dgS_end (w p : List UInt8) : dgS w p (w.length + 1 + p.length) = w ++ p := by
  unfold dgS
  rw [if_pos (by omega), show w.length + 1 + p.length - w.length - 1 = p.length by omega, List.take_length]
end Gb
namespace Go.Proofs.YtfbmphbmidlijaaGreatDoor.S
open Go Go.Sx Go.RowKit Gb Go.Shelf
set_option maxRecDepth 100000 in
set_option maxHeartbeats 8000000 in
theorem parseq_n (l : List UInt8) (hl : l.length < 900) : Meets Tryz.prog Gd 34 [strP l] (rparseP l) := by
  refine meets_of_vc (Y := {}) (N := 87) (rs := [.tmp 2, .tmp 3]) mix tk gd Tryz.func34 rfl (by kernel_rfl) rfl rfl (by simp) (by kernel_rfl) ?_
  unfold rparseP
  simp (maxSteps := 10000000) only [↓sx, sx, ↓ty, ↓reduceIte, Nat.reduceEqDiff, Nat.reduceBeqDiff, Nat.reduceAdd, Nat.reduceLeDiff, Nat.reduceLT, Nat.reduceMul, Nat.reduceSub, Int.reduceEq, Int.reduceBNe, Int.reduceBEq, ne_eq, not_false_eq_true, pc, ls, bs, and_true, true_and, and_self, Nat.reduceAdd, Nat.le_refl, leafP]
  refine CallT.mk (valid3_n gd l (by omega)) ?_
  cases h : isRat l with
  | true => simp (maxSteps := 10000000) only [↓sx, sx, ↓ty, ↓reduceIte, Nat.reduceEqDiff, Nat.reduceBeqDiff, Nat.reduceAdd, Nat.reduceLeDiff, Nat.reduceLT, Nat.reduceMul, Nat.reduceSub, Int.reduceEq, Int.reduceBNe, Int.reduceBEq, ne_eq, not_false_eq_true, pc, ls, bs, and_true, true_and, and_self, Nat.reduceAdd, Nat.le_refl, leafP]
  | false =>
    simp only [Bool.false_eq_true, if_false]
    cases l with
    | nil =>
      have d0 : decide (((0 : Nat) : Int) > 0) = false := by decide
      have hm : cutM [] = ([], false) := rfl
      rw [hm]
      simp (maxSteps := 10000000) only [↓sx, sx, ↓ty, ↓reduceIte, Nat.reduceEqDiff, Nat.reduceBeqDiff, Nat.reduceAdd, Nat.reduceLeDiff, Nat.reduceLT, Nat.reduceMul, Nat.reduceSub, Int.reduceEq, Int.reduceBNe, Int.reduceBEq, ne_eq, not_false_eq_true, pc, ls, bs, and_true, true_and, and_self, Nat.reduceAdd, Nat.le_refl, leafP, List.length_nil, d0]
      obtain ⟨s, hs⟩ : ∃ s, s = ([] : List UInt8) := ⟨_, rfl⟩
      have hp4 : ∀ c ∈ s, c ≠ 46 := by rw [hs]; simp
      have hsl : s.length < 900 := by rw [hs]; simp
      have hdn : (digB (cutD []).1 && digB (cutD []).2.1) = false := rfl
      rw [hdn]
      clear hdn
      refine loopK_of (fun i : Nat => [(0, .p (strP [])), (2, .p (strP [])), (3, .p (iP 0)), (4, .p (strP s)), (5, .p (strP (s.take i))), (6, .p (iP 0)), (7, .p (.val (.bool false))), (8, .p (.val (.int .i64 (i : Nat))))]) (fun _ => []) (fun _ => []) (fun i => i ≤ s.length) (fun i => s.length - i) 0 (Nat.zero_le _) ?_ ?_
      · rw [hs]
        simp (maxSteps := 10000000) only [isE_nil, is_cons, bo_p, bo_box, bo_orow, bo_rowp, any_cons', all_cons', all_nil', Bool.true_or, Bool.or_true, ↓sx, sx, ↓reduceIte, Nat.reduceEqDiff, Nat.reduceBeqDiff]
        exact ⟨rfl, rfl, rfl, rfl, rfl, rfl⟩
      · intro i hi
        by_cases hil : i < s.length
        · have e1 : decide ((i : Int) < (s.length : Int)) = true := decide_eq_true (by omega)
          obtain ⟨c0, hc0⟩ : ∃ c0, s[i]? = some c0 := ⟨s[i], List.getElem?_eq_getElem hil⟩
          have hc46 : (c0 == 46) = false := by simpa using hp4 c0 (List.mem_of_getElem? hc0)
          have wi : IntKind.i64.wrap ((i : Int) + 1) = ((i + 1 : Nat) : Int) := by rw [i64_id (by omega) (by omega)]; push_cast; rfl
          have tn : ((i : Nat) : Int).toNat = i := rfl
          have tn2 : ((i + 1 : Nat) : Int).toNat = i + 1 := rfl
          have hone := one_at hc0
          have htl : (List.take i s).length = i := by rw [List.length_take]; omega
          have hts : List.take i s ++ [c0] = List.take (i + 1) s := by rw [List.take_add_one, hc0]; rfl
          simp (maxSteps := 10000000) only [↓sx, sx, ↓ty, ↓reduceIte, Nat.reduceEqDiff, Nat.reduceBeqDiff, Nat.reduceAdd, Nat.reduceLeDiff, Nat.reduceLT, Nat.reduceMul, Nat.reduceSub, Int.reduceEq, Int.reduceBNe, Int.reduceBEq, ne_eq, not_false_eq_true, pc, ls, bs, and_true, true_and, and_self, Nat.reduceAdd, Nat.le_refl, leafP, e1, getD_get, hc0, Option.getD_some, c46, hc46]
          refine ⟨⟨by omega, by omega⟩, ⟨by omega, by omega⟩, ?_⟩
          cases hd : isD c0 with
          | true =>
            obtain ⟨k1, k2⟩ := cD1 c0 hd
            simp (maxSteps := 10000000) only [↓sx, sx, ↓ty, ↓reduceIte, Nat.reduceEqDiff, Nat.reduceBeqDiff, Nat.reduceAdd, Nat.reduceLeDiff, Nat.reduceLT, Nat.reduceMul, Nat.reduceSub, Int.reduceEq, Int.reduceBNe, Int.reduceBEq, ne_eq, not_false_eq_true, pc, ls, bs, and_true, true_and, and_self, Nat.reduceAdd, Nat.le_refl, leafP, getD_get, hc0, Option.getD_some, k1, k2, wi, tn, tn2, hone, htl, hts]
            refine ⟨⟨by omega, by omega⟩, ⟨by omega, by omega, by omega⟩, by omega, NextK.mk (i + 1) (by omega) (by omega) ?_⟩
            simp (maxSteps := 10000000) only [isE_nil, is_cons, bo_p, bo_box, bo_orow, bo_rowp, any_cons', all_cons', all_nil', Bool.true_or, Bool.or_true, ↓sx, sx, ↓reduceIte, Nat.reduceEqDiff, Nat.reduceBeqDiff, wi, tn, tn2, hone, hts]
            exact ⟨rfl, rfl, rfl, rfl, rfl⟩
          | false =>
            rcases cD0 c0 hd with k1 | ⟨k1, k2⟩
            · simp (maxSteps := 10000000) only [↓sx, sx, ↓ty, ↓reduceIte, Nat.reduceEqDiff, Nat.reduceBeqDiff, Nat.reduceAdd, Nat.reduceLeDiff, Nat.reduceLT, Nat.reduceMul, Nat.reduceSub, Int.reduceEq, Int.reduceBNe, Int.reduceBEq, ne_eq, not_false_eq_true, pc, ls, bs, and_true, true_and, and_self, Nat.reduceAdd, Nat.le_refl, leafP, getD_get, hc0, Option.getD_some, k1]
            · simp (maxSteps := 10000000) only [↓sx, sx, ↓ty, ↓reduceIte, Nat.reduceEqDiff, Nat.reduceBeqDiff, Nat.reduceAdd, Nat.reduceLeDiff, Nat.reduceLT, Nat.reduceMul, Nat.reduceSub, Int.reduceEq, Int.reduceBNe, Int.reduceBEq, ne_eq, not_false_eq_true, pc, ls, bs, and_true, true_and, and_self, Nat.reduceAdd, Nat.le_refl, leafP, getD_get, hc0, Option.getD_some, k1, k2]
              exact ⟨by omega, by omega⟩
        · obtain rfl : i = s.length := by omega
          have e1 : decide ((s.length : Int) < (s.length : Int)) = false := decide_eq_false (by omega)
          simp (maxSteps := 10000000) only [↓sx, sx, ↓ty, ↓reduceIte, Nat.reduceEqDiff, Nat.reduceBeqDiff, Nat.reduceAdd, Nat.reduceLeDiff, Nat.reduceLT, Nat.reduceMul, Nat.reduceSub, Int.reduceEq, Int.reduceBNe, Int.reduceBEq, ne_eq, not_false_eq_true, pc, ls, bs, and_true, true_and, and_self, Nat.reduceAdd, Nat.le_refl, leafP, e1]
    | cons c r =>
      have d0 : decide (((r.length + 1 : Nat) : Int) > 0) = true := decide_eq_true (by omega)
      cases h45 : (c == 45) with
      | true =>
        have hm1 : (cutM (c :: r)).1 = r := by rw [cutM_cons, if_pos (eq_of_beq h45)]
        have hm2 : (cutM (c :: r)).2 = true := by rw [cutM_cons, if_pos (eq_of_beq h45)]
        rw [hm1, hm2]
        simp (maxSteps := 10000000) only [↓sx, sx, ↓ty, ↓reduceIte, Nat.reduceEqDiff, Nat.reduceBeqDiff, Nat.reduceAdd, Nat.reduceLeDiff, Nat.reduceLT, Nat.reduceMul, Nat.reduceSub, Int.reduceEq, Int.reduceBNe, Int.reduceBEq, ne_eq, not_false_eq_true, pc, ls, bs, and_true, true_and, and_self, Nat.reduceAdd, Nat.le_refl, leafP, List.length_cons, d0, getD_get, Option.getD_some, c45, h45]
        refine ⟨by omega, by omega, ?_⟩
        have e1r : List.take (r.length + 1 - Int.toNat 1) (List.drop (Int.toNat 1) (c :: r)) = r := by
          show List.take (r.length + 1 - 1) (List.drop 1 (c :: r)) = r
          rw [List.drop_one, List.tail_cons, List.take_of_length_le (by omega)]
        obtain ⟨s, hs⟩ : ∃ s, s = r := ⟨_, rfl⟩
        have hsl : s.length < 900 := by rw [hs]; simp at hl ⊢; omega
        rcases cutD_inv r with ⟨hp1, hp2, hp3⟩ | ⟨hp1, hp2, hp3, hp4⟩
        · clear hp1
          generalize (cutD r).1 = w at *
          generalize (cutD r).2.1 = p at *
          rw [← hs] at hp2
          have hsw : s.length = w.length + 1 + p.length := by rw [hp2]; simp; omega
          refine loopK_of (fun i : Nat => [(0, .p (strP (c :: r))), (2, .p (strP [])), (3, .p (iP 0)), (4, .p (strP s)), (5, .p (strP (dgS w p i))), (6, .p (.val (.int .i64 (plS w i : Nat)))), (7, .p (.val (.bool (decide (w.length < i))))), (8, .p (.val (.int .i64 (i : Nat))))]) (fun _ => []) (fun _ => []) (fun i => i ≤ s.length ∧ (w.length < i → w ≠ [] ∧ p ≠ []) ∧ ∀ x ∈ dgS w p i, isD x = true) (fun i => s.length - i) 0 ⟨Nat.zero_le _, fun h => by omega, fun x hx => by rw [dgS_0] at hx; cases hx⟩ ?_ ?_
          · rw [dgS_0, plS_0, decide_eq_false (show ¬ w.length < 0 by omega)]
            rw [hs]
            simp (maxSteps := 10000000) only [isE_nil, is_cons, bo_p, bo_box, bo_orow, bo_rowp, any_cons', all_cons', all_nil', Bool.true_or, Bool.or_true, ↓sx, sx, ↓reduceIte, Nat.reduceEqDiff, Nat.reduceBeqDiff]
            rw [e1r]
            exact ⟨rfl, rfl, rfl, rfl, rfl, rfl⟩
          · rintro i ⟨hi, hi2, hi3⟩
            have wi : IntKind.i64.wrap ((i : Int) + 1) = ((i + 1 : Nat) : Int) := by rw [i64_id (by omega) (by omega)]; push_cast; rfl
            have tn : ((i : Nat) : Int).toNat = i := rfl
            have tn2 : ((i + 1 : Nat) : Int).toNat = i + 1 := rfl
            have hdl := dgS_len w p i
            by_cases hil : i < s.length
            · have e1 : decide ((i : Int) < (s.length : Int)) = true := decide_eq_true (by omega)
              rcases Nat.lt_trichotomy i w.length with hlt | heq | hgt
              · obtain ⟨c0, hc⟩ : ∃ c0, w[i]? = some c0 := ⟨w[i], List.getElem?_eq_getElem hlt⟩
                have hc0 : s[i]? = some c0 := by rw [hp2, List.getElem?_append_left hlt, hc]
                have hc46 : (c0 == 46) = false := by simpa using hp3 c0 (List.mem_of_getElem? hc)
                have hone := one_at hc0
                have hts := dgS_lo (p := p) hlt hc
                have po1 : decide (w.length < i) = false := decide_eq_false (by omega)
                have po2 : decide (w.length < i + 1) = false := decide_eq_false (by omega)
                have pl2 : plS w (i + 1) = plS w i := by unfold plS; rw [if_neg (by omega), if_neg (by omega)]
                rw [po1]
                simp (maxSteps := 10000000) only [↓sx, sx, ↓ty, ↓reduceIte, Nat.reduceEqDiff, Nat.reduceBeqDiff, Nat.reduceAdd, Nat.reduceLeDiff, Nat.reduceLT, Nat.reduceMul, Nat.reduceSub, Int.reduceEq, Int.reduceBNe, Int.reduceBEq, ne_eq, not_false_eq_true, pc, ls, bs, and_true, true_and, and_self, Nat.reduceAdd, Nat.le_refl, leafP, e1, getD_get, hc0, Option.getD_some, c46, hc46]
                refine ⟨⟨by omega, by omega⟩, ⟨by omega, by omega⟩, ?_⟩
                cases hd : isD c0 with
                | true =>
                  obtain ⟨k1, k2⟩ := cD1 c0 hd
                  simp (maxSteps := 10000000) only [↓sx, sx, ↓ty, ↓reduceIte, Nat.reduceEqDiff, Nat.reduceBeqDiff, Nat.reduceAdd, Nat.reduceLeDiff, Nat.reduceLT, Nat.reduceMul, Nat.reduceSub, Int.reduceEq, Int.reduceBNe, Int.reduceBEq, ne_eq, not_false_eq_true, pc, ls, bs, and_true, true_and, and_self, Nat.reduceAdd, Nat.le_refl, leafP, getD_get, hc0, Option.getD_some, k1, k2, wi, tn, tn2, hone, hts]
                  refine ⟨⟨by omega, by omega⟩, ⟨by omega, by omega, by omega⟩, by omega, NextK.mk (i + 1) (by omega) ⟨by omega, fun h => by omega, ?_⟩ ?_⟩
                  · intro x hx
                    rw [← hts] at hx
                    rcases List.mem_append.1 hx with hx | hx
                    · exact hi3 x hx
                    · rw [List.mem_singleton] at hx; rw [hx]; exact hd
                  · simp (maxSteps := 10000000) only [isE_nil, is_cons, bo_p, bo_box, bo_orow, bo_rowp, any_cons', all_cons', all_nil', Bool.true_or, Bool.or_true, ↓sx, sx, ↓reduceIte, Nat.reduceEqDiff, Nat.reduceBeqDiff, wi, tn, tn2, hone, hts, po2, pl2]
                    exact ⟨rfl, rfl, rfl, rfl⟩
                | false =>
                  rw [digB_no (List.mem_of_getElem? hc) hd, Bool.false_and]
                  rcases cD0 c0 hd with k1 | ⟨k1, k2⟩
                  · simp (maxSteps := 10000000) only [↓sx, sx, ↓ty, ↓reduceIte, Nat.reduceEqDiff, Nat.reduceBeqDiff, Nat.reduceAdd, Nat.reduceLeDiff, Nat.reduceLT, Nat.reduceMul, Nat.reduceSub, Int.reduceEq, Int.reduceBNe, Int.reduceBEq, ne_eq, not_false_eq_true, pc, ls, bs, and_true, true_and, and_self, Nat.reduceAdd, Nat.le_refl, leafP, getD_get, hc0, Option.getD_some, k1]
                  · simp (maxSteps := 10000000) only [↓sx, sx, ↓ty, ↓reduceIte, Nat.reduceEqDiff, Nat.reduceBeqDiff, Nat.reduceAdd, Nat.reduceLeDiff, Nat.reduceLT, Nat.reduceMul, Nat.reduceSub, Int.reduceEq, Int.reduceBNe, Int.reduceBEq, ne_eq, not_false_eq_true, pc, ls, bs, and_true, true_and, and_self, Nat.reduceAdd, Nat.le_refl, leafP, getD_get, hc0, Option.getD_some, k1, k2]
                    exact ⟨by omega, by omega⟩
              · subst heq
                have hc0 : s[w.length]? = some 46 := by rw [hp2, List.getElem?_append_right (Nat.le_refl _), Nat.sub_self]; rfl
                have h46 : ((46 : UInt8) == 46) = true := rfl
                have po1 : decide (w.length < w.length) = false := decide_eq_false (by omega)
                have k46 : decide ((((46 : UInt8).toNat : Nat) : Int) ≥ 48) = false := by decide
                rw [po1]
                by_cases hw0 : w = []
                · have hwl : w.length = 0 := by rw [hw0]; rfl
                  have g0 : decide ((w.length : Int) > 0) = false := decide_eq_false (by omega)
                  have e0 : digB w = false := by rw [hw0]; rfl
                  rw [e0, Bool.false_and]
                  simp (maxSteps := 10000000) only [↓sx, sx, ↓ty, ↓reduceIte, Nat.reduceEqDiff, Nat.reduceBeqDiff, Nat.reduceAdd, Nat.reduceLeDiff, Nat.reduceLT, Nat.reduceMul, Nat.reduceSub, Int.reduceEq, Int.reduceBNe, Int.reduceBEq, ne_eq, not_false_eq_true, pc, ls, bs, and_true, true_and, and_self, Nat.reduceAdd, Nat.le_refl, leafP, e1, getD_get, hc0, Option.getD_some, c46, h46, g0, k46]
                  exact ⟨by omega, by omega⟩
                · have hwl : 0 < w.length := List.length_pos_iff.2 hw0
                  have g0 : decide ((w.length : Int) > 0) = true := decide_eq_true (by omega)
                  by_cases hpz : p = []
                  · have hpl0 : p.length = 0 := by rw [hpz]; rfl
                    have g1 : decide (((w.length + 1 : Nat) : Int) < (s.length : Int)) = false := decide_eq_false (by omega)
                    have e0 : digB p = false := by rw [hpz]; rfl
                    rw [e0, Bool.and_false]
                    simp (maxSteps := 10000000) only [↓sx, sx, ↓ty, ↓reduceIte, Nat.reduceEqDiff, Nat.reduceBeqDiff, Nat.reduceAdd, Nat.reduceLeDiff, Nat.reduceLT, Nat.reduceMul, Nat.reduceSub, Int.reduceEq, Int.reduceBNe, Int.reduceBEq, ne_eq, not_false_eq_true, pc, ls, bs, and_true, true_and, and_self, Nat.reduceAdd, Nat.le_refl, leafP, e1, getD_get, hc0, Option.getD_some, c46, h46, g0, wi, g1, k46]
                    exact ⟨by omega, by omega⟩
                  · have hpl : 0 < p.length := List.length_pos_iff.2 hpz
                    have g1 : decide (((w.length + 1 : Nat) : Int) < (s.length : Int)) = true := decide_eq_true (by omega)
                    simp (maxSteps := 10000000) only [↓sx, sx, ↓ty, ↓reduceIte, Nat.reduceEqDiff, Nat.reduceBeqDiff, Nat.reduceAdd, Nat.reduceLeDiff, Nat.reduceLT, Nat.reduceMul, Nat.reduceSub, Int.reduceEq, Int.reduceBNe, Int.reduceBEq, ne_eq, not_false_eq_true, pc, ls, bs, and_true, true_and, and_self, Nat.reduceAdd, Nat.le_refl, leafP, e1, getD_get, hc0, Option.getD_some, c46, h46, g0, wi, g1]
                    refine ⟨⟨by omega, by omega⟩, NextK.mk (w.length + 1) (by omega) ⟨by omega, fun _ => ⟨hw0, hpz⟩, fun x hx => by rw [dgS_eq] at hx; exact hi3 x hx⟩ ?_⟩
                    simp (maxSteps := 10000000) only [isE_nil, is_cons, bo_p, bo_box, bo_orow, bo_rowp, any_cons', all_cons', all_nil', Bool.true_or, Bool.or_true, ↓sx, sx, ↓reduceIte, Nat.reduceEqDiff, Nat.reduceBeqDiff, wi, dgS_eq, plS_eq, decide_eq_true (show w.length < w.length + 1 by omega)]
                    exact ⟨rfl, rfl, rfl, rfl, rfl⟩
              · obtain ⟨hw0, hpz⟩ := hi2 hgt
                obtain ⟨c0, hc⟩ : ∃ c0, p[i - w.length - 1]? = some c0 := ⟨p[i - w.length - 1]'(by omega), List.getElem?_eq_getElem (by omega)⟩
                have hc0 : s[i]? = some c0 := by
                  rw [hp2, List.getElem?_append_right (by omega), show i - w.length = (i - w.length - 1) + 1 by omega]
                  exact hc
                have hone := one_at hc0
                have hts := dgS_hi hgt hc
                have po1 : decide (w.length < i) = true := decide_eq_true hgt
                have po2 : decide (w.length < i + 1) = true := decide_eq_true (by omega)
                have pl1 : plS w i = i - w.length - 1 := by unfold plS; rw [if_pos hgt]
                have pl2 : IntKind.i64.wrap ((plS w i : Int) + 1) = (plS w (i + 1) : Nat) := by
                  rw [i64_id (by omega) (by omega)]
                  unfold plS
                  rw [if_pos hgt, if_pos (by omega)]; omega
                rw [po1]
                cases h46 : (c0 == 46) with
                | true =>
                  have hd : isD c0 = false := by rw [eq_of_beq h46]; rfl
                  rw [digB_no (List.mem_of_getElem? hc) hd, Bool.and_false]
                  simp (maxSteps := 10000000) only [↓sx, sx, ↓ty, ↓reduceIte, Nat.reduceEqDiff, Nat.reduceBeqDiff, Nat.reduceAdd, Nat.reduceLeDiff, Nat.reduceLT, Nat.reduceMul, Nat.reduceSub, Int.reduceEq, Int.reduceBNe, Int.reduceBEq, ne_eq, not_false_eq_true, pc, ls, bs, and_true, true_and, and_self, Nat.reduceAdd, Nat.le_refl, leafP, e1, getD_get, hc0, Option.getD_some, c46, h46]
                  refine ⟨⟨by omega, by omega⟩, ⟨by omega, by omega⟩, ?_⟩
                  rcases cD0 c0 hd with k1 | ⟨k1, k2⟩
                  · simp (maxSteps := 10000000) only [↓sx, sx, ↓ty, ↓reduceIte, Nat.reduceEqDiff, Nat.reduceBeqDiff, Nat.reduceAdd, Nat.reduceLeDiff, Nat.reduceLT, Nat.reduceMul, Nat.reduceSub, Int.reduceEq, Int.reduceBNe, Int.reduceBEq, ne_eq, not_false_eq_true, pc, ls, bs, and_true, true_and, and_self, Nat.reduceAdd, Nat.le_refl, leafP, getD_get, hc0, Option.getD_some, k1]
                  · simp (maxSteps := 10000000) only [↓sx, sx, ↓ty, ↓reduceIte, Nat.reduceEqDiff, Nat.reduceBeqDiff, Nat.reduceAdd, Nat.reduceLeDiff, Nat.reduceLT, Nat.reduceMul, Nat.reduceSub, Int.reduceEq, Int.reduceBNe, Int.reduceBEq, ne_eq, not_false_eq_true, pc, ls, bs, and_true, true_and, and_self, Nat.reduceAdd, Nat.le_refl, leafP, getD_get, hc0, Option.getD_some, k1, k2]
                    exact ⟨by omega, by omega⟩
                | false =>
                  simp (maxSteps := 10000000) only [↓sx, sx, ↓ty, ↓reduceIte, Nat.reduceEqDiff, Nat.reduceBeqDiff, Nat.reduceAdd, Nat.reduceLeDiff, Nat.reduceLT, Nat.reduceMul, Nat.reduceSub, Int.reduceEq, Int.reduceBNe, Int.reduceBEq, ne_eq, not_false_eq_true, pc, ls, bs, and_true, true_and, and_self, Nat.reduceAdd, Nat.le_refl, leafP, e1, getD_get, hc0, Option.getD_some, c46, h46]
                  refine ⟨⟨by omega, by omega⟩, ⟨by omega, by omega⟩, ?_⟩
                  cases hd : isD c0 with
                  | true =>
                    obtain ⟨k1, k2⟩ := cD1 c0 hd
                    simp (maxSteps := 10000000) only [↓sx, sx, ↓ty, ↓reduceIte, Nat.reduceEqDiff, Nat.reduceBeqDiff, Nat.reduceAdd, Nat.reduceLeDiff, Nat.reduceLT, Nat.reduceMul, Nat.reduceSub, Int.reduceEq, Int.reduceBNe, Int.reduceBEq, ne_eq, not_false_eq_true, pc, ls, bs, and_true, true_and, and_self, Nat.reduceAdd, Nat.le_refl, leafP, getD_get, hc0, Option.getD_some, k1, k2, wi, tn, tn2, hone, hts]
                    refine ⟨⟨by omega, by omega⟩, ⟨by omega, by omega, by omega⟩, by omega, NextK.mk (i + 1) (by omega) ⟨by omega, fun _ => ⟨hw0, hpz⟩, ?_⟩ ?_⟩
                    · intro x hx
                      rw [← hts] at hx
                      rcases List.mem_append.1 hx with hx | hx
                      · exact hi3 x hx
                      · rw [List.mem_singleton] at hx; rw [hx]; exact hd
                    · simp (maxSteps := 10000000) only [isE_nil, is_cons, bo_p, bo_box, bo_orow, bo_rowp, any_cons', all_cons', all_nil', Bool.true_or, Bool.or_true, ↓sx, sx, ↓reduceIte, Nat.reduceEqDiff, Nat.reduceBeqDiff, wi, tn, tn2, hone, hts, po2, pl2]
                      exact ⟨rfl, rfl, rfl, rfl⟩
                  | false =>
                    rw [digB_no (List.mem_of_getElem? hc) hd, Bool.and_false]
                    rcases cD0 c0 hd with k1 | ⟨k1, k2⟩
                    · simp (maxSteps := 10000000) only [↓sx, sx, ↓ty, ↓reduceIte, Nat.reduceEqDiff, Nat.reduceBeqDiff, Nat.reduceAdd, Nat.reduceLeDiff, Nat.reduceLT, Nat.reduceMul, Nat.reduceSub, Int.reduceEq, Int.reduceBNe, Int.reduceBEq, ne_eq, not_false_eq_true, pc, ls, bs, and_true, true_and, and_self, Nat.reduceAdd, Nat.le_refl, leafP, getD_get, hc0, Option.getD_some, k1]
                    · simp (maxSteps := 10000000) only [↓sx, sx, ↓ty, ↓reduceIte, Nat.reduceEqDiff, Nat.reduceBeqDiff, Nat.reduceAdd, Nat.reduceLeDiff, Nat.reduceLT, Nat.reduceMul, Nat.reduceSub, Int.reduceEq, Int.reduceBNe, Int.reduceBEq, ne_eq, not_false_eq_true, pc, ls, bs, and_true, true_and, and_self, Nat.reduceAdd, Nat.le_refl, leafP, getD_get, hc0, Option.getD_some, k1, k2]
                      exact ⟨by omega, by omega⟩
            · obtain rfl : i = s.length := by omega
              have e1 : decide ((s.length : Int) < (s.length : Int)) = false := decide_eq_false (by omega)
              have po1 : decide (w.length < s.length) = true := decide_eq_true (by omega)
              have pl1 : plS w s.length = p.length := by unfold plS; rw [if_pos (by omega)]; omega
              have dg1 : dgS w p s.length = w ++ p := by rw [hsw, dgS_end]
              rw [dg1] at hi3 hdl
              rw [po1, pl1, dg1]
              obtain ⟨hw0, hpz⟩ := hi2 (by omega)
              have dw1 : digB w = true := digB_yes hw0 fun x hx => hi3 x (List.mem_append_left _ hx)
              have dp1 : digB p = true := digB_yes hpz fun x hx => hi3 x (List.mem_append_right _ hx)
              rw [dw1, dp1]
              simp only [Bool.and_self, if_true]
              have hlt : decide ((s.length : Int) < ((r.length + 1 : Nat) : Int)) = true := by rw [hs]; simp <;> omega
              have lwn := Lw_natOf hi3
              have lt := Lw_ten p.length
              have fm := from1_n gd (w ++ p) (by omega) hi3
              have mk := make2_n gd true (natOf (w ++ p))
              have sm := small_n gd 10 (by omega)
              have pw := power_n gd p.length (by omega)
              have zx : Sz 40000 (parV true w p) := Sz.norm _ (by rw [zmk_abs]; omega) (by omega)
              have lo := lowest_q gd (zmk true (natOf (w ++ p))) (10 ^ p.length) (parV true w p) (ten_ne _) (by rw [zmk_abs]; omega) (by omega) rfl
              have tx := to3_n gd (parV true w p) (zx.mono (by omega))
              generalize parV true w p = x at *
              generalize natOf (w ++ p) = n at *
              simp (maxSteps := 10000000) only [↓sx, sx, ↓ty, ↓reduceIte, Nat.reduceEqDiff, Nat.reduceBeqDiff, Nat.reduceAdd, Nat.reduceLeDiff, Nat.reduceLT, Nat.reduceMul, Nat.reduceSub, Int.reduceEq, Int.reduceBNe, Int.reduceBEq, ne_eq, not_false_eq_true, pc, ls, bs, and_true, true_and, and_self, Nat.reduceAdd, Nat.le_refl, leafP, e1, List.length_cons, hlt]
              refine CallT.mk (t := ⟨⟩) fm ?_
              simp (maxSteps := 10000000) only [↓sx, sx, ↓ty, ↓reduceIte, Nat.reduceEqDiff, Nat.reduceBeqDiff, Nat.reduceAdd, Nat.reduceLeDiff, Nat.reduceLT, Nat.reduceMul, Nat.reduceSub, Int.reduceEq, Int.reduceBNe, Int.reduceBEq, ne_eq, not_false_eq_true, pc, ls, bs, and_true, true_and, and_self, Nat.reduceAdd, Nat.le_refl, leafP, nP_c]
              refine CallT.mk (t := ⟨⟩) mk ?_
              simp (maxSteps := 10000000) only [↓sx, sx, ↓ty, ↓reduceIte, Nat.reduceEqDiff, Nat.reduceBeqDiff, Nat.reduceAdd, Nat.reduceLeDiff, Nat.reduceLT, Nat.reduceMul, Nat.reduceSub, Int.reduceEq, Int.reduceBNe, Int.reduceBEq, ne_eq, not_false_eq_true, pc, ls, bs, and_true, true_and, and_self, Nat.reduceAdd, Nat.le_refl, leafP, zP_c]
              refine CallT.mk (t := ⟨⟩) sm ?_
              simp (maxSteps := 10000000) only [↓sx, sx, ↓ty, ↓reduceIte, Nat.reduceEqDiff, Nat.reduceBeqDiff, Nat.reduceAdd, Nat.reduceLeDiff, Nat.reduceLT, Nat.reduceMul, Nat.reduceSub, Int.reduceEq, Int.reduceBNe, Int.reduceBEq, ne_eq, not_false_eq_true, pc, ls, bs, and_true, true_and, and_self, Nat.reduceAdd, Nat.le_refl, leafP, nP_c]
              refine CallT.mk (t := ⟨⟩) pw ?_
              simp (maxSteps := 10000000) only [↓sx, sx, ↓ty, ↓reduceIte, Nat.reduceEqDiff, Nat.reduceBeqDiff, Nat.reduceAdd, Nat.reduceLeDiff, Nat.reduceLT, Nat.reduceMul, Nat.reduceSub, Int.reduceEq, Int.reduceBNe, Int.reduceBEq, ne_eq, not_false_eq_true, pc, ls, bs, and_true, true_and, and_self, Nat.reduceAdd, Nat.le_refl, leafP, zP_c, nP_c]
              refine CallT.mk (t := ⟨⟩) lo ?_
              simp (maxSteps := 10000000) only [↓sx, sx, ↓ty, ↓reduceIte, Nat.reduceEqDiff, Nat.reduceBeqDiff, Nat.reduceAdd, Nat.reduceLeDiff, Nat.reduceLT, Nat.reduceMul, Nat.reduceSub, Int.reduceEq, Int.reduceBNe, Int.reduceBEq, ne_eq, not_false_eq_true, pc, ls, bs, and_true, true_and, and_self, Nat.reduceAdd, Nat.le_refl, leafP, qP_c]
              refine CallT.mk (t := ⟨⟩) tx ?_
              simp (maxSteps := 10000000) only [↓sx, sx, ↓ty, ↓reduceIte, Nat.reduceEqDiff, Nat.reduceBeqDiff, Nat.reduceAdd, Nat.reduceLeDiff, Nat.reduceLT, Nat.reduceMul, Nat.reduceSub, Int.reduceEq, Int.reduceBNe, Int.reduceBEq, ne_eq, not_false_eq_true, pc, ls, bs, and_true, true_and, and_self, Nat.reduceAdd, Nat.le_refl, leafP]
        · have hdn : (digB (cutD r).1 && digB (cutD r).2.1) = false := by rw [hp3, Bool.and_eq_false_iff]; exact .inr rfl
          rw [hdn]
          clear hp1 hp2 hp3 hdn
          rw [← hs] at hp4
          refine loopK_of (fun i : Nat => [(0, .p (strP (c :: r))), (2, .p (strP [])), (3, .p (iP 0)), (4, .p (strP s)), (5, .p (strP (s.take i))), (6, .p (iP 0)), (7, .p (.val (.bool false))), (8, .p (.val (.int .i64 (i : Nat))))]) (fun _ => []) (fun _ => []) (fun i => i ≤ s.length) (fun i => s.length - i) 0 (Nat.zero_le _) ?_ ?_
          · rw [hs]
            simp (maxSteps := 10000000) only [isE_nil, is_cons, bo_p, bo_box, bo_orow, bo_rowp, any_cons', all_cons', all_nil', Bool.true_or, Bool.or_true, ↓sx, sx, ↓reduceIte, Nat.reduceEqDiff, Nat.reduceBeqDiff]
            rw [e1r]
            exact ⟨rfl, rfl, rfl, rfl, rfl, rfl⟩
          · intro i hi
            by_cases hil : i < s.length
            · have e1 : decide ((i : Int) < (s.length : Int)) = true := decide_eq_true (by omega)
              obtain ⟨c0, hc0⟩ : ∃ c0, s[i]? = some c0 := ⟨s[i], List.getElem?_eq_getElem hil⟩
              have hc46 : (c0 == 46) = false := by simpa using hp4 c0 (List.mem_of_getElem? hc0)
              have wi : IntKind.i64.wrap ((i : Int) + 1) = ((i + 1 : Nat) : Int) := by rw [i64_id (by omega) (by omega)]; push_cast; rfl
              have tn : ((i : Nat) : Int).toNat = i := rfl
              have tn2 : ((i + 1 : Nat) : Int).toNat = i + 1 := rfl
              have hone := one_at hc0
              have htl : (List.take i s).length = i := by rw [List.length_take]; omega
              have hts : List.take i s ++ [c0] = List.take (i + 1) s := by rw [List.take_add_one, hc0]; rfl
              simp (maxSteps := 10000000) only [↓sx, sx, ↓ty, ↓reduceIte, Nat.reduceEqDiff, Nat.reduceBeqDiff, Nat.reduceAdd, Nat.reduceLeDiff, Nat.reduceLT, Nat.reduceMul, Nat.reduceSub, Int.reduceEq, Int.reduceBNe, Int.reduceBEq, ne_eq, not_false_eq_true, pc, ls, bs, and_true, true_and, and_self, Nat.reduceAdd, Nat.le_refl, leafP, e1, getD_get, hc0, Option.getD_some, c46, hc46]
              refine ⟨⟨by omega, by omega⟩, ⟨by omega, by omega⟩, ?_⟩
              cases hd : isD c0 with
              | true =>
                obtain ⟨k1, k2⟩ := cD1 c0 hd
                simp (maxSteps := 10000000) only [↓sx, sx, ↓ty, ↓reduceIte, Nat.reduceEqDiff, Nat.reduceBeqDiff, Nat.reduceAdd, Nat.reduceLeDiff, Nat.reduceLT, Nat.reduceMul, Nat.reduceSub, Int.reduceEq, Int.reduceBNe, Int.reduceBEq, ne_eq, not_false_eq_true, pc, ls, bs, and_true, true_and, and_self, Nat.reduceAdd, Nat.le_refl, leafP, getD_get, hc0, Option.getD_some, k1, k2, wi, tn, tn2, hone, htl, hts]
                refine ⟨⟨by omega, by omega⟩, ⟨by omega, by omega, by omega⟩, by omega, NextK.mk (i + 1) (by omega) (by omega) ?_⟩
                simp (maxSteps := 10000000) only [isE_nil, is_cons, bo_p, bo_box, bo_orow, bo_rowp, any_cons', all_cons', all_nil', Bool.true_or, Bool.or_true, ↓sx, sx, ↓reduceIte, Nat.reduceEqDiff, Nat.reduceBeqDiff, wi, tn, tn2, hone, hts]
                exact ⟨rfl, rfl, rfl, rfl, rfl⟩
              | false =>
                rcases cD0 c0 hd with k1 | ⟨k1, k2⟩
                · simp (maxSteps := 10000000) only [↓sx, sx, ↓ty, ↓reduceIte, Nat.reduceEqDiff, Nat.reduceBeqDiff, Nat.reduceAdd, Nat.reduceLeDiff, Nat.reduceLT, Nat.reduceMul, Nat.reduceSub, Int.reduceEq, Int.reduceBNe, Int.reduceBEq, ne_eq, not_false_eq_true, pc, ls, bs, and_true, true_and, and_self, Nat.reduceAdd, Nat.le_refl, leafP, getD_get, hc0, Option.getD_some, k1]
                · simp (maxSteps := 10000000) only [↓sx, sx, ↓ty, ↓reduceIte, Nat.reduceEqDiff, Nat.reduceBeqDiff, Nat.reduceAdd, Nat.reduceLeDiff, Nat.reduceLT, Nat.reduceMul, Nat.reduceSub, Int.reduceEq, Int.reduceBNe, Int.reduceBEq, ne_eq, not_false_eq_true, pc, ls, bs, and_true, true_and, and_self, Nat.reduceAdd, Nat.le_refl, leafP, getD_get, hc0, Option.getD_some, k1, k2]
                  exact ⟨by omega, by omega⟩
            · obtain rfl : i = s.length := by omega
              have e1 : decide ((s.length : Int) < (s.length : Int)) = false := decide_eq_false (by omega)
              simp (maxSteps := 10000000) only [↓sx, sx, ↓ty, ↓reduceIte, Nat.reduceEqDiff, Nat.reduceBeqDiff, Nat.reduceAdd, Nat.reduceLeDiff, Nat.reduceLT, Nat.reduceMul, Nat.reduceSub, Int.reduceEq, Int.reduceBNe, Int.reduceBEq, ne_eq, not_false_eq_true, pc, ls, bs, and_true, true_and, and_self, Nat.reduceAdd, Nat.le_refl, leafP, e1]
      | false =>
        have h45' : c ≠ 45 := by simpa using h45
        have hm1 : (cutM (c :: r)).1 = c :: r := by rw [cutM_cons, if_neg h45']
        have hm2 : (cutM (c :: r)).2 = false := by rw [cutM_cons, if_neg h45']
        rw [hm1, hm2]
        simp (maxSteps := 10000000) only [↓sx, sx, ↓ty, ↓reduceIte, Nat.reduceEqDiff, Nat.reduceBeqDiff, Nat.reduceAdd, Nat.reduceLeDiff, Nat.reduceLT, Nat.reduceMul, Nat.reduceSub, Int.reduceEq, Int.reduceBNe, Int.reduceBEq, ne_eq, not_false_eq_true, pc, ls, bs, and_true, true_and, and_self, Nat.reduceAdd, Nat.le_refl, leafP, List.length_cons, d0, getD_get, Option.getD_some, c45, h45]
        refine ⟨by omega, ?_⟩
        obtain ⟨s, hs⟩ : ∃ s, s = (c :: r) := ⟨_, rfl⟩
        have hsl : s.length < 900 := by rw [hs]; simp at hl ⊢; omega
        rcases cutD_inv (c :: r) with ⟨hp1, hp2, hp3⟩ | ⟨hp1, hp2, hp3, hp4⟩
        · clear hp1
          generalize (cutD (c :: r)).1 = w at *
          generalize (cutD (c :: r)).2.1 = p at *
          rw [← hs] at hp2
          have hsw : s.length = w.length + 1 + p.length := by rw [hp2]; simp; omega
          refine loopK_of (fun i : Nat => [(0, .p (strP (c :: r))), (2, .p (strP [])), (3, .p (iP 0)), (4, .p (strP s)), (5, .p (strP (dgS w p i))), (6, .p (.val (.int .i64 (plS w i : Nat)))), (7, .p (.val (.bool (decide (w.length < i))))), (8, .p (.val (.int .i64 (i : Nat))))]) (fun _ => []) (fun _ => []) (fun i => i ≤ s.length ∧ (w.length < i → w ≠ [] ∧ p ≠ []) ∧ ∀ x ∈ dgS w p i, isD x = true) (fun i => s.length - i) 0 ⟨Nat.zero_le _, fun h => by omega, fun x hx => by rw [dgS_0] at hx; cases hx⟩ ?_ ?_
          · rw [dgS_0, plS_0, decide_eq_false (show ¬ w.length < 0 by omega)]
            rw [hs]
            simp (maxSteps := 10000000) only [isE_nil, is_cons, bo_p, bo_box, bo_orow, bo_rowp, any_cons', all_cons', all_nil', Bool.true_or, Bool.or_true, ↓sx, sx, ↓reduceIte, Nat.reduceEqDiff, Nat.reduceBeqDiff]
            exact ⟨rfl, rfl, rfl, rfl, rfl, rfl⟩
          · rintro i ⟨hi, hi2, hi3⟩
            have wi : IntKind.i64.wrap ((i : Int) + 1) = ((i + 1 : Nat) : Int) := by rw [i64_id (by omega) (by omega)]; push_cast; rfl
            have tn : ((i : Nat) : Int).toNat = i := rfl
            have tn2 : ((i + 1 : Nat) : Int).toNat = i + 1 := rfl
            have hdl := dgS_len w p i
            by_cases hil : i < s.length
            · have e1 : decide ((i : Int) < (s.length : Int)) = true := decide_eq_true (by omega)
              rcases Nat.lt_trichotomy i w.length with hlt | heq | hgt
              · obtain ⟨c0, hc⟩ : ∃ c0, w[i]? = some c0 := ⟨w[i], List.getElem?_eq_getElem hlt⟩
                have hc0 : s[i]? = some c0 := by rw [hp2, List.getElem?_append_left hlt, hc]
                have hc46 : (c0 == 46) = false := by simpa using hp3 c0 (List.mem_of_getElem? hc)
                have hone := one_at hc0
                have hts := dgS_lo (p := p) hlt hc
                have po1 : decide (w.length < i) = false := decide_eq_false (by omega)
                have po2 : decide (w.length < i + 1) = false := decide_eq_false (by omega)
                have pl2 : plS w (i + 1) = plS w i := by unfold plS; rw [if_neg (by omega), if_neg (by omega)]
                rw [po1]
                simp (maxSteps := 10000000) only [↓sx, sx, ↓ty, ↓reduceIte, Nat.reduceEqDiff, Nat.reduceBeqDiff, Nat.reduceAdd, Nat.reduceLeDiff, Nat.reduceLT, Nat.reduceMul, Nat.reduceSub, Int.reduceEq, Int.reduceBNe, Int.reduceBEq, ne_eq, not_false_eq_true, pc, ls, bs, and_true, true_and, and_self, Nat.reduceAdd, Nat.le_refl, leafP, e1, getD_get, hc0, Option.getD_some, c46, hc46]
                refine ⟨⟨by omega, by omega⟩, ⟨by omega, by omega⟩, ?_⟩
                cases hd : isD c0 with
                | true =>
                  obtain ⟨k1, k2⟩ := cD1 c0 hd
                  simp (maxSteps := 10000000) only [↓sx, sx, ↓ty, ↓reduceIte, Nat.reduceEqDiff, Nat.reduceBeqDiff, Nat.reduceAdd, Nat.reduceLeDiff, Nat.reduceLT, Nat.reduceMul, Nat.reduceSub, Int.reduceEq, Int.reduceBNe, Int.reduceBEq, ne_eq, not_false_eq_true, pc, ls, bs, and_true, true_and, and_self, Nat.reduceAdd, Nat.le_refl, leafP, getD_get, hc0, Option.getD_some, k1, k2, wi, tn, tn2, hone, hts]
                  refine ⟨⟨by omega, by omega⟩, ⟨by omega, by omega, by omega⟩, by omega, NextK.mk (i + 1) (by omega) ⟨by omega, fun h => by omega, ?_⟩ ?_⟩
                  · intro x hx
                    rw [← hts] at hx
                    rcases List.mem_append.1 hx with hx | hx
                    · exact hi3 x hx
                    · rw [List.mem_singleton] at hx; rw [hx]; exact hd
                  · simp (maxSteps := 10000000) only [isE_nil, is_cons, bo_p, bo_box, bo_orow, bo_rowp, any_cons', all_cons', all_nil', Bool.true_or, Bool.or_true, ↓sx, sx, ↓reduceIte, Nat.reduceEqDiff, Nat.reduceBeqDiff, wi, tn, tn2, hone, hts, po2, pl2]
                    exact ⟨rfl, rfl, rfl, rfl⟩
                | false =>
                  rw [digB_no (List.mem_of_getElem? hc) hd, Bool.false_and]
                  rcases cD0 c0 hd with k1 | ⟨k1, k2⟩
                  · simp (maxSteps := 10000000) only [↓sx, sx, ↓ty, ↓reduceIte, Nat.reduceEqDiff, Nat.reduceBeqDiff, Nat.reduceAdd, Nat.reduceLeDiff, Nat.reduceLT, Nat.reduceMul, Nat.reduceSub, Int.reduceEq, Int.reduceBNe, Int.reduceBEq, ne_eq, not_false_eq_true, pc, ls, bs, and_true, true_and, and_self, Nat.reduceAdd, Nat.le_refl, leafP, getD_get, hc0, Option.getD_some, k1]
                  · simp (maxSteps := 10000000) only [↓sx, sx, ↓ty, ↓reduceIte, Nat.reduceEqDiff, Nat.reduceBeqDiff, Nat.reduceAdd, Nat.reduceLeDiff, Nat.reduceLT, Nat.reduceMul, Nat.reduceSub, Int.reduceEq, Int.reduceBNe, Int.reduceBEq, ne_eq, not_false_eq_true, pc, ls, bs, and_true, true_and, and_self, Nat.reduceAdd, Nat.le_refl, leafP, getD_get, hc0, Option.getD_some, k1, k2]
                    exact ⟨by omega, by omega⟩
              · subst heq
                have hc0 : s[w.length]? = some 46 := by rw [hp2, List.getElem?_append_right (Nat.le_refl _), Nat.sub_self]; rfl
                have h46 : ((46 : UInt8) == 46) = true := rfl
                have po1 : decide (w.length < w.length) = false := decide_eq_false (by omega)
                have k46 : decide ((((46 : UInt8).toNat : Nat) : Int) ≥ 48) = false := by decide
                rw [po1]
                by_cases hw0 : w = []
                · have hwl : w.length = 0 := by rw [hw0]; rfl
                  have g0 : decide ((w.length : Int) > 0) = false := decide_eq_false (by omega)
                  have e0 : digB w = false := by rw [hw0]; rfl
                  rw [e0, Bool.false_and]
                  simp (maxSteps := 10000000) only [↓sx, sx, ↓ty, ↓reduceIte, Nat.reduceEqDiff, Nat.reduceBeqDiff, Nat.reduceAdd, Nat.reduceLeDiff, Nat.reduceLT, Nat.reduceMul, Nat.reduceSub, Int.reduceEq, Int.reduceBNe, Int.reduceBEq, ne_eq, not_false_eq_true, pc, ls, bs, and_true, true_and, and_self, Nat.reduceAdd, Nat.le_refl, leafP, e1, getD_get, hc0, Option.getD_some, c46, h46, g0, k46]
                  exact ⟨by omega, by omega⟩
                · have hwl : 0 < w.length := List.length_pos_iff.2 hw0
                  have g0 : decide ((w.length : Int) > 0) = true := decide_eq_true (by omega)
                  by_cases hpz : p = []
                  · have hpl0 : p.length = 0 := by rw [hpz]; rfl
                    have g1 : decide (((w.length + 1 : Nat) : Int) < (s.length : Int)) = false := decide_eq_false (by omega)
                    have e0 : digB p = false := by rw [hpz]; rfl
                    rw [e0, Bool.and_false]
                    simp (maxSteps := 10000000) only [↓sx, sx, ↓ty, ↓reduceIte, Nat.reduceEqDiff, Nat.reduceBeqDiff, Nat.reduceAdd, Nat.reduceLeDiff, Nat.reduceLT, Nat.reduceMul, Nat.reduceSub, Int.reduceEq, Int.reduceBNe, Int.reduceBEq, ne_eq, not_false_eq_true, pc, ls, bs, and_true, true_and, and_self, Nat.reduceAdd, Nat.le_refl, leafP, e1, getD_get, hc0, Option.getD_some, c46, h46, g0, wi, g1, k46]
                    exact ⟨by omega, by omega⟩
                  · have hpl : 0 < p.length := List.length_pos_iff.2 hpz
                    have g1 : decide (((w.length + 1 : Nat) : Int) < (s.length : Int)) = true := decide_eq_true (by omega)
                    simp (maxSteps := 10000000) only [↓sx, sx, ↓ty, ↓reduceIte, Nat.reduceEqDiff, Nat.reduceBeqDiff, Nat.reduceAdd, Nat.reduceLeDiff, Nat.reduceLT, Nat.reduceMul, Nat.reduceSub, Int.reduceEq, Int.reduceBNe, Int.reduceBEq, ne_eq, not_false_eq_true, pc, ls, bs, and_true, true_and, and_self, Nat.reduceAdd, Nat.le_refl, leafP, e1, getD_get, hc0, Option.getD_some, c46, h46, g0, wi, g1]
                    refine ⟨⟨by omega, by omega⟩, NextK.mk (w.length + 1) (by omega) ⟨by omega, fun _ => ⟨hw0, hpz⟩, fun x hx => by rw [dgS_eq] at hx; exact hi3 x hx⟩ ?_⟩
                    simp (maxSteps := 10000000) only [isE_nil, is_cons, bo_p, bo_box, bo_orow, bo_rowp, any_cons', all_cons', all_nil', Bool.true_or, Bool.or_true, ↓sx, sx, ↓reduceIte, Nat.reduceEqDiff, Nat.reduceBeqDiff, wi, dgS_eq, plS_eq, decide_eq_true (show w.length < w.length + 1 by omega)]
                    exact ⟨rfl, rfl, rfl, rfl, rfl⟩
              · obtain ⟨hw0, hpz⟩ := hi2 hgt
                obtain ⟨c0, hc⟩ : ∃ c0, p[i - w.length - 1]? = some c0 := ⟨p[i - w.length - 1]'(by omega), List.getElem?_eq_getElem (by omega)⟩
                have hc0 : s[i]? = some c0 := by
                  rw [hp2, List.getElem?_append_right (by omega), show i - w.length = (i - w.length - 1) + 1 by omega]
                  exact hc
                have hone := one_at hc0
                have hts := dgS_hi hgt hc
                have po1 : decide (w.length < i) = true := decide_eq_true hgt
                have po2 : decide (w.length < i + 1) = true := decide_eq_true (by omega)
                have pl1 : plS w i = i - w.length - 1 := by unfold plS; rw [if_pos hgt]
                have pl2 : IntKind.i64.wrap ((plS w i : Int) + 1) = (plS w (i + 1) : Nat) := by
                  rw [i64_id (by omega) (by omega)]
                  unfold plS
                  rw [if_pos hgt, if_pos (by omega)]; omega
                rw [po1]
                cases h46 : (c0 == 46) with
                | true =>
                  have hd : isD c0 = false := by rw [eq_of_beq h46]; rfl
                  rw [digB_no (List.mem_of_getElem? hc) hd, Bool.and_false]
                  simp (maxSteps := 10000000) only [↓sx, sx, ↓ty, ↓reduceIte, Nat.reduceEqDiff, Nat.reduceBeqDiff, Nat.reduceAdd, Nat.reduceLeDiff, Nat.reduceLT, Nat.reduceMul, Nat.reduceSub, Int.reduceEq, Int.reduceBNe, Int.reduceBEq, ne_eq, not_false_eq_true, pc, ls, bs, and_true, true_and, and_self, Nat.reduceAdd, Nat.le_refl, leafP, e1, getD_get, hc0, Option.getD_some, c46, h46]
                  refine ⟨⟨by omega, by omega⟩, ⟨by omega, by omega⟩, ?_⟩
                  rcases cD0 c0 hd with k1 | ⟨k1, k2⟩
                  · simp (maxSteps := 10000000) only [↓sx, sx, ↓ty, ↓reduceIte, Nat.reduceEqDiff, Nat.reduceBeqDiff, Nat.reduceAdd, Nat.reduceLeDiff, Nat.reduceLT, Nat.reduceMul, Nat.reduceSub, Int.reduceEq, Int.reduceBNe, Int.reduceBEq, ne_eq, not_false_eq_true, pc, ls, bs, and_true, true_and, and_self, Nat.reduceAdd, Nat.le_refl, leafP, getD_get, hc0, Option.getD_some, k1]
                  · simp (maxSteps := 10000000) only [↓sx, sx, ↓ty, ↓reduceIte, Nat.reduceEqDiff, Nat.reduceBeqDiff, Nat.reduceAdd, Nat.reduceLeDiff, Nat.reduceLT, Nat.reduceMul, Nat.reduceSub, Int.reduceEq, Int.reduceBNe, Int.reduceBEq, ne_eq, not_false_eq_true, pc, ls, bs, and_true, true_and, and_self, Nat.reduceAdd, Nat.le_refl, leafP, getD_get, hc0, Option.getD_some, k1, k2]
                    exact ⟨by omega, by omega⟩
                | false =>
                  simp (maxSteps := 10000000) only [↓sx, sx, ↓ty, ↓reduceIte, Nat.reduceEqDiff, Nat.reduceBeqDiff, Nat.reduceAdd, Nat.reduceLeDiff, Nat.reduceLT, Nat.reduceMul, Nat.reduceSub, Int.reduceEq, Int.reduceBNe, Int.reduceBEq, ne_eq, not_false_eq_true, pc, ls, bs, and_true, true_and, and_self, Nat.reduceAdd, Nat.le_refl, leafP, e1, getD_get, hc0, Option.getD_some, c46, h46]
                  refine ⟨⟨by omega, by omega⟩, ⟨by omega, by omega⟩, ?_⟩
                  cases hd : isD c0 with
                  | true =>
                    obtain ⟨k1, k2⟩ := cD1 c0 hd
                    simp (maxSteps := 10000000) only [↓sx, sx, ↓ty, ↓reduceIte, Nat.reduceEqDiff, Nat.reduceBeqDiff, Nat.reduceAdd, Nat.reduceLeDiff, Nat.reduceLT, Nat.reduceMul, Nat.reduceSub, Int.reduceEq, Int.reduceBNe, Int.reduceBEq, ne_eq, not_false_eq_true, pc, ls, bs, and_true, true_and, and_self, Nat.reduceAdd, Nat.le_refl, leafP, getD_get, hc0, Option.getD_some, k1, k2, wi, tn, tn2, hone, hts]
                    refine ⟨⟨by omega, by omega⟩, ⟨by omega, by omega, by omega⟩, by omega, NextK.mk (i + 1) (by omega) ⟨by omega, fun _ => ⟨hw0, hpz⟩, ?_⟩ ?_⟩
                    · intro x hx
                      rw [← hts] at hx
                      rcases List.mem_append.1 hx with hx | hx
                      · exact hi3 x hx
                      · rw [List.mem_singleton] at hx; rw [hx]; exact hd
                    · simp (maxSteps := 10000000) only [isE_nil, is_cons, bo_p, bo_box, bo_orow, bo_rowp, any_cons', all_cons', all_nil', Bool.true_or, Bool.or_true, ↓sx, sx, ↓reduceIte, Nat.reduceEqDiff, Nat.reduceBeqDiff, wi, tn, tn2, hone, hts, po2, pl2]
                      exact ⟨rfl, rfl, rfl, rfl⟩
                  | false =>
                    rw [digB_no (List.mem_of_getElem? hc) hd, Bool.and_false]
                    rcases cD0 c0 hd with k1 | ⟨k1, k2⟩
                    · simp (maxSteps := 10000000) only [↓sx, sx, ↓ty, ↓reduceIte, Nat.reduceEqDiff, Nat.reduceBeqDiff, Nat.reduceAdd, Nat.reduceLeDiff, Nat.reduceLT, Nat.reduceMul, Nat.reduceSub, Int.reduceEq, Int.reduceBNe, Int.reduceBEq, ne_eq, not_false_eq_true, pc, ls, bs, and_true, true_and, and_self, Nat.reduceAdd, Nat.le_refl, leafP, getD_get, hc0, Option.getD_some, k1]
                    · simp (maxSteps := 10000000) only [↓sx, sx, ↓ty, ↓reduceIte, Nat.reduceEqDiff, Nat.reduceBeqDiff, Nat.reduceAdd, Nat.reduceLeDiff, Nat.reduceLT, Nat.reduceMul, Nat.reduceSub, Int.reduceEq, Int.reduceBNe, Int.reduceBEq, ne_eq, not_false_eq_true, pc, ls, bs, and_true, true_and, and_self, Nat.reduceAdd, Nat.le_refl, leafP, getD_get, hc0, Option.getD_some, k1, k2]
                      exact ⟨by omega, by omega⟩
            · obtain rfl : i = s.length := by omega
              have e1 : decide ((s.length : Int) < (s.length : Int)) = false := decide_eq_false (by omega)
              have po1 : decide (w.length < s.length) = true := decide_eq_true (by omega)
              have pl1 : plS w s.length = p.length := by unfold plS; rw [if_pos (by omega)]; omega
              have dg1 : dgS w p s.length = w ++ p := by rw [hsw, dgS_end]
              rw [dg1] at hi3 hdl
              rw [po1, pl1, dg1]
              obtain ⟨hw0, hpz⟩ := hi2 (by omega)
              have dw1 : digB w = true := digB_yes hw0 fun x hx => hi3 x (List.mem_append_left _ hx)
              have dp1 : digB p = true := digB_yes hpz fun x hx => hi3 x (List.mem_append_right _ hx)
              rw [dw1, dp1]
              simp only [Bool.and_self, if_true]
              have hlt : decide ((s.length : Int) < ((r.length + 1 : Nat) : Int)) = false := by rw [hs]; simp <;> omega
              have lwn := Lw_natOf hi3
              have lt := Lw_ten p.length
              have fm := from1_n gd (w ++ p) (by omega) hi3
              have mk := make2_n gd false (natOf (w ++ p))
              have sm := small_n gd 10 (by omega)
              have pw := power_n gd p.length (by omega)
              have zx : Sz 40000 (parV false w p) := Sz.norm _ (by rw [zmk_abs]; omega) (by omega)
              have lo := lowest_q gd (zmk false (natOf (w ++ p))) (10 ^ p.length) (parV false w p) (ten_ne _) (by rw [zmk_abs]; omega) (by omega) rfl
              have tx := to3_n gd (parV false w p) (zx.mono (by omega))
              generalize parV false w p = x at *
              generalize natOf (w ++ p) = n at *
              simp (maxSteps := 10000000) only [↓sx, sx, ↓ty, ↓reduceIte, Nat.reduceEqDiff, Nat.reduceBeqDiff, Nat.reduceAdd, Nat.reduceLeDiff, Nat.reduceLT, Nat.reduceMul, Nat.reduceSub, Int.reduceEq, Int.reduceBNe, Int.reduceBEq, ne_eq, not_false_eq_true, pc, ls, bs, and_true, true_and, and_self, Nat.reduceAdd, Nat.le_refl, leafP, e1, List.length_cons, hlt]
              refine CallT.mk (t := ⟨⟩) fm ?_
              simp (maxSteps := 10000000) only [↓sx, sx, ↓ty, ↓reduceIte, Nat.reduceEqDiff, Nat.reduceBeqDiff, Nat.reduceAdd, Nat.reduceLeDiff, Nat.reduceLT, Nat.reduceMul, Nat.reduceSub, Int.reduceEq, Int.reduceBNe, Int.reduceBEq, ne_eq, not_false_eq_true, pc, ls, bs, and_true, true_and, and_self, Nat.reduceAdd, Nat.le_refl, leafP, nP_c]
              refine CallT.mk (t := ⟨⟩) mk ?_
              simp (maxSteps := 10000000) only [↓sx, sx, ↓ty, ↓reduceIte, Nat.reduceEqDiff, Nat.reduceBeqDiff, Nat.reduceAdd, Nat.reduceLeDiff, Nat.reduceLT, Nat.reduceMul, Nat.reduceSub, Int.reduceEq, Int.reduceBNe, Int.reduceBEq, ne_eq, not_false_eq_true, pc, ls, bs, and_true, true_and, and_self, Nat.reduceAdd, Nat.le_refl, leafP, zP_c]
              refine CallT.mk (t := ⟨⟩) sm ?_
              simp (maxSteps := 10000000) only [↓sx, sx, ↓ty, ↓reduceIte, Nat.reduceEqDiff, Nat.reduceBeqDiff, Nat.reduceAdd, Nat.reduceLeDiff, Nat.reduceLT, Nat.reduceMul, Nat.reduceSub, Int.reduceEq, Int.reduceBNe, Int.reduceBEq, ne_eq, not_false_eq_true, pc, ls, bs, and_true, true_and, and_self, Nat.reduceAdd, Nat.le_refl, leafP, nP_c]
              refine CallT.mk (t := ⟨⟩) pw ?_
              simp (maxSteps := 10000000) only [↓sx, sx, ↓ty, ↓reduceIte, Nat.reduceEqDiff, Nat.reduceBeqDiff, Nat.reduceAdd, Nat.reduceLeDiff, Nat.reduceLT, Nat.reduceMul, Nat.reduceSub, Int.reduceEq, Int.reduceBNe, Int.reduceBEq, ne_eq, not_false_eq_true, pc, ls, bs, and_true, true_and, and_self, Nat.reduceAdd, Nat.le_refl, leafP, zP_c, nP_c]
              refine CallT.mk (t := ⟨⟩) lo ?_
              simp (maxSteps := 10000000) only [↓sx, sx, ↓ty, ↓reduceIte, Nat.reduceEqDiff, Nat.reduceBeqDiff, Nat.reduceAdd, Nat.reduceLeDiff, Nat.reduceLT, Nat.reduceMul, Nat.reduceSub, Int.reduceEq, Int.reduceBNe, Int.reduceBEq, ne_eq, not_false_eq_true, pc, ls, bs, and_true, true_and, and_self, Nat.reduceAdd, Nat.le_refl, leafP, qP_c]
              refine CallT.mk (t := ⟨⟩) tx ?_
              simp (maxSteps := 10000000) only [↓sx, sx, ↓ty, ↓reduceIte, Nat.reduceEqDiff, Nat.reduceBeqDiff, Nat.reduceAdd, Nat.reduceLeDiff, Nat.reduceLT, Nat.reduceMul, Nat.reduceSub, Int.reduceEq, Int.reduceBNe, Int.reduceBEq, ne_eq, not_false_eq_true, pc, ls, bs, and_true, true_and, and_self, Nat.reduceAdd, Nat.le_refl, leafP]
        · have hdn : (digB (cutD (c :: r)).1 && digB (cutD (c :: r)).2.1) = false := by rw [hp3, Bool.and_eq_false_iff]; exact .inr rfl
          rw [hdn]
          clear hp1 hp2 hp3 hdn
          rw [← hs] at hp4
          refine loopK_of (fun i : Nat => [(0, .p (strP (c :: r))), (2, .p (strP [])), (3, .p (iP 0)), (4, .p (strP s)), (5, .p (strP (s.take i))), (6, .p (iP 0)), (7, .p (.val (.bool false))), (8, .p (.val (.int .i64 (i : Nat))))]) (fun _ => []) (fun _ => []) (fun i => i ≤ s.length) (fun i => s.length - i) 0 (Nat.zero_le _) ?_ ?_
          · rw [hs]
            simp (maxSteps := 10000000) only [isE_nil, is_cons, bo_p, bo_box, bo_orow, bo_rowp, any_cons', all_cons', all_nil', Bool.true_or, Bool.or_true, ↓sx, sx, ↓reduceIte, Nat.reduceEqDiff, Nat.reduceBeqDiff]
            exact ⟨rfl, rfl, rfl, rfl, rfl, rfl⟩
          · intro i hi
            by_cases hil : i < s.length
            · have e1 : decide ((i : Int) < (s.length : Int)) = true := decide_eq_true (by omega)
              obtain ⟨c0, hc0⟩ : ∃ c0, s[i]? = some c0 := ⟨s[i], List.getElem?_eq_getElem hil⟩
              have hc46 : (c0 == 46) = false := by simpa using hp4 c0 (List.mem_of_getElem? hc0)
              have wi : IntKind.i64.wrap ((i : Int) + 1) = ((i + 1 : Nat) : Int) := by rw [i64_id (by omega) (by omega)]; push_cast; rfl
              have tn : ((i : Nat) : Int).toNat = i := rfl
              have tn2 : ((i + 1 : Nat) : Int).toNat = i + 1 := rfl
              have hone := one_at hc0
              have htl : (List.take i s).length = i := by rw [List.length_take]; omega
              have hts : List.take i s ++ [c0] = List.take (i + 1) s := by rw [List.take_add_one, hc0]; rfl
              simp (maxSteps := 10000000) only [↓sx, sx, ↓ty, ↓reduceIte, Nat.reduceEqDiff, Nat.reduceBeqDiff, Nat.reduceAdd, Nat.reduceLeDiff, Nat.reduceLT, Nat.reduceMul, Nat.reduceSub, Int.reduceEq, Int.reduceBNe, Int.reduceBEq, ne_eq, not_false_eq_true, pc, ls, bs, and_true, true_and, and_self, Nat.reduceAdd, Nat.le_refl, leafP, e1, getD_get, hc0, Option.getD_some, c46, hc46]
              refine ⟨⟨by omega, by omega⟩, ⟨by omega, by omega⟩, ?_⟩
              cases hd : isD c0 with
              | true =>
                obtain ⟨k1, k2⟩ := cD1 c0 hd
                simp (maxSteps := 10000000) only [↓sx, sx, ↓ty, ↓reduceIte, Nat.reduceEqDiff, Nat.reduceBeqDiff, Nat.reduceAdd, Nat.reduceLeDiff, Nat.reduceLT, Nat.reduceMul, Nat.reduceSub, Int.reduceEq, Int.reduceBNe, Int.reduceBEq, ne_eq, not_false_eq_true, pc, ls, bs, and_true, true_and, and_self, Nat.reduceAdd, Nat.le_refl, leafP, getD_get, hc0, Option.getD_some, k1, k2, wi, tn, tn2, hone, htl, hts]
                refine ⟨⟨by omega, by omega⟩, ⟨by omega, by omega, by omega⟩, by omega, NextK.mk (i + 1) (by omega) (by omega) ?_⟩
                simp (maxSteps := 10000000) only [isE_nil, is_cons, bo_p, bo_box, bo_orow, bo_rowp, any_cons', all_cons', all_nil', Bool.true_or, Bool.or_true, ↓sx, sx, ↓reduceIte, Nat.reduceEqDiff, Nat.reduceBeqDiff, wi, tn, tn2, hone, hts]
                exact ⟨rfl, rfl, rfl, rfl, rfl⟩
              | false =>
                rcases cD0 c0 hd with k1 | ⟨k1, k2⟩
                · simp (maxSteps := 10000000) only [↓sx, sx, ↓ty, ↓reduceIte, Nat.reduceEqDiff, Nat.reduceBeqDiff, Nat.reduceAdd, Nat.reduceLeDiff, Nat.reduceLT, Nat.reduceMul, Nat.reduceSub, Int.reduceEq, Int.reduceBNe, Int.reduceBEq, ne_eq, not_false_eq_true, pc, ls, bs, and_true, true_and, and_self, Nat.reduceAdd, Nat.le_refl, leafP, getD_get, hc0, Option.getD_some, k1]
                · simp (maxSteps := 10000000) only [↓sx, sx, ↓ty, ↓reduceIte, Nat.reduceEqDiff, Nat.reduceBeqDiff, Nat.reduceAdd, Nat.reduceLeDiff, Nat.reduceLT, Nat.reduceMul, Nat.reduceSub, Int.reduceEq, Int.reduceBNe, Int.reduceBEq, ne_eq, not_false_eq_true, pc, ls, bs, and_true, true_and, and_self, Nat.reduceAdd, Nat.le_refl, leafP, getD_get, hc0, Option.getD_some, k1, k2]
                  exact ⟨by omega, by omega⟩
            · obtain rfl : i = s.length := by omega
              have e1 : decide ((s.length : Int) < (s.length : Int)) = false := decide_eq_false (by omega)
              simp (maxSteps := 10000000) only [↓sx, sx, ↓ty, ↓reduceIte, Nat.reduceEqDiff, Nat.reduceBeqDiff, Nat.reduceAdd, Nat.reduceLeDiff, Nat.reduceLT, Nat.reduceMul, Nat.reduceSub, Int.reduceEq, Int.reduceBNe, Int.reduceBEq, ne_eq, not_false_eq_true, pc, ls, bs, and_true, true_and, and_self, Nat.reduceAdd, Nat.le_refl, leafP, e1]
end Go.Proofs.YtfbmphbmidlijaaGreatDoor.S
namespace Gb
open Go Go.RowKit Go.Sx
theorem floor_form (a : List UInt8) : ∃ p e, rfloorP a = .tup [strP p, iP e] := by
  unfold rfloorP
  split
  · exact ⟨_, _, rfl⟩
  · exact ⟨_, _, rfl⟩
theorem decp_form (a : List UInt8) (n : Int) : ∃ p e, rdecP a n = .tup [strP p, iP e] := by
  unfold rdecP
  split
  · split
    · exact ⟨_, _, rfl⟩
    · exact ⟨_, _, rfl⟩
  · exact ⟨_, _, rfl⟩
theorem parse_form (a : List UInt8) : ∃ p e, rparseP a = .tup [strP p, iP e] := by
  unfold rparseP
  split
  · exact ⟨_, _, rfl⟩
  · split
    · exact ⟨_, _, rfl⟩
    · exact ⟨_, _, rfl⟩
end Gb
namespace Go.Proofs.YtfbmphbmidlijaaGreatDoor.S
open Go Go.Sx Go.RowKit Gb Go.Shelf
set_option maxRecDepth 100000 in
set_option maxHeartbeats 16000000 in
theorem texts3_n (a : List UInt8) (n : Int) (x : List UInt8) : Meets Tryz.prog Gd 5 [strP a, iP n, strP x] (.val (.bool true)) := by
  refine meets_of_vc (Y := {}) (N := 88) (rs := [.tmp 6]) mix tk gd Tryz.func5 rfl (by kernel_rfl) rfl rfl (by simp) (by kernel_rfl) ?_
  simp (maxSteps := 10000000) only [↓sx, sx, ↓ty, ↓reduceIte, Nat.reduceEqDiff, Nat.reduceBeqDiff, Nat.reduceAdd, Nat.reduceLeDiff, Nat.reduceLT, Nat.reduceMul, Nat.reduceSub, Int.reduceEq, Int.reduceBNe, Int.reduceBEq, ne_eq, not_false_eq_true, pc, ls, bs, and_true, true_and, and_self, Nat.reduceAdd, Nat.le_refl, leafP]
  refine CallT.mk (t := ⟨⟩) awake3_n ?_
  simp (maxSteps := 10000000) only [↓sx, sx, ↓ty, ↓reduceIte, Nat.reduceEqDiff, Nat.reduceBeqDiff, Nat.reduceAdd, Nat.reduceLeDiff, Nat.reduceLT, Nat.reduceMul, Nat.reduceSub, Int.reduceEq, Int.reduceBNe, Int.reduceBEq, ne_eq, not_false_eq_true, pc, ls, bs, and_true, true_and, and_self, Nat.reduceAdd, Nat.le_refl, leafP]
  refine CallT.mk (t := ⟨⟩) (long3_n [a, x] (by simp)) ?_
  cases hw : [a, x].any long60 with
  | true =>
    simp (maxSteps := 10000000) only [↓sx, sx, ↓ty, ↓reduceIte, Nat.reduceEqDiff, Nat.reduceBeqDiff, Nat.reduceAdd, Nat.reduceLeDiff, Nat.reduceLT, Nat.reduceMul, Nat.reduceSub, Int.reduceEq, Int.reduceBNe, Int.reduceBEq, ne_eq, not_false_eq_true, pc, ls, bs, and_true, true_and, and_self, Nat.reduceAdd, Nat.le_refl, leafP]
    refine CallT.mk (t := ⟨⟩) awake3_n ?_
    simp (maxSteps := 10000000) only [↓sx, sx, ↓ty, ↓reduceIte, Nat.reduceEqDiff, Nat.reduceBeqDiff, Nat.reduceAdd, Nat.reduceLeDiff, Nat.reduceLT, Nat.reduceMul, Nat.reduceSub, Int.reduceEq, Int.reduceBNe, Int.reduceBEq, ne_eq, not_false_eq_true, pc, ls, bs, and_true, true_and, and_self, Nat.reduceAdd, Nat.le_refl, leafP]
  | false =>
    have hn := l60_no hw
    have l1 := hn a (by simp)
    have l2 := hn x (by simp)
    have F1 := rfloor_n a (by omega)
    have F2 := floorq_n a (by omega)
    obtain ⟨r1, e1, h1⟩ := floor_form a
    rw [h1] at F1 F2
    have D1 := rdecimal_n a n (by omega)
    have D2 := decimalq_n a n (by omega)
    obtain ⟨r2, e2, h2⟩ := decp_form a n
    rw [h2] at D1 D2
    have P1 := rparse_n x (by omega)
    have P2 := parseq_n x (by omega)
    obtain ⟨r3, e3, h3⟩ := parse_form x
    rw [h3] at P1 P2
    simp (maxSteps := 10000000) only [↓sx, sx, ↓ty, ↓reduceIte, Nat.reduceEqDiff, Nat.reduceBeqDiff, Nat.reduceAdd, Nat.reduceLeDiff, Nat.reduceLT, Nat.reduceMul, Nat.reduceSub, Int.reduceEq, Int.reduceBNe, Int.reduceBEq, ne_eq, not_false_eq_true, pc, ls, bs, and_true, true_and, and_self, Nat.reduceAdd, Nat.le_refl, leafP]
    refine CallT.mk (t := ⟨⟩) F1 ?_
    simp (maxSteps := 10000000) only [↓sx, sx, ↓ty, ↓reduceIte, Nat.reduceEqDiff, Nat.reduceBeqDiff, Nat.reduceAdd, Nat.reduceLeDiff, Nat.reduceLT, Nat.reduceMul, Nat.reduceSub, Int.reduceEq, Int.reduceBNe, Int.reduceBEq, ne_eq, not_false_eq_true, pc, ls, bs, and_true, true_and, and_self, Nat.reduceAdd, Nat.le_refl, leafP]
    refine CallT.mk (t := ⟨⟩) F2 ?_
    simp (maxSteps := 10000000) only [↓sx, sx, ↓ty, ↓reduceIte, Nat.reduceEqDiff, Nat.reduceBeqDiff, Nat.reduceAdd, Nat.reduceLeDiff, Nat.reduceLT, Nat.reduceMul, Nat.reduceSub, Int.reduceEq, Int.reduceBNe, Int.reduceBEq, ne_eq, not_false_eq_true, pc, ls, bs, and_true, true_and, and_self, Nat.reduceAdd, Nat.le_refl, leafP]
    refine CallT.mk (t := ⟨⟩) D1 ?_
    simp (maxSteps := 10000000) only [↓sx, sx, ↓ty, ↓reduceIte, Nat.reduceEqDiff, Nat.reduceBeqDiff, Nat.reduceAdd, Nat.reduceLeDiff, Nat.reduceLT, Nat.reduceMul, Nat.reduceSub, Int.reduceEq, Int.reduceBNe, Int.reduceBEq, ne_eq, not_false_eq_true, pc, ls, bs, and_true, true_and, and_self, Nat.reduceAdd, Nat.le_refl, leafP]
    refine CallT.mk (t := ⟨⟩) D2 ?_
    simp (maxSteps := 10000000) only [↓sx, sx, ↓ty, ↓reduceIte, Nat.reduceEqDiff, Nat.reduceBeqDiff, Nat.reduceAdd, Nat.reduceLeDiff, Nat.reduceLT, Nat.reduceMul, Nat.reduceSub, Int.reduceEq, Int.reduceBNe, Int.reduceBEq, ne_eq, not_false_eq_true, pc, ls, bs, and_true, true_and, and_self, Nat.reduceAdd, Nat.le_refl, leafP]
    refine CallT.mk (t := ⟨⟩) P1 ?_
    simp (maxSteps := 10000000) only [↓sx, sx, ↓ty, ↓reduceIte, Nat.reduceEqDiff, Nat.reduceBeqDiff, Nat.reduceAdd, Nat.reduceLeDiff, Nat.reduceLT, Nat.reduceMul, Nat.reduceSub, Int.reduceEq, Int.reduceBNe, Int.reduceBEq, ne_eq, not_false_eq_true, pc, ls, bs, and_true, true_and, and_self, Nat.reduceAdd, Nat.le_refl, leafP]
    refine CallT.mk (t := ⟨⟩) P2 ?_
    simp (maxSteps := 10000000) only [↓sx, sx, ↓ty, ↓reduceIte, Nat.reduceEqDiff, Nat.reduceBeqDiff, Nat.reduceAdd, Nat.reduceLeDiff, Nat.reduceLT, Nat.reduceMul, Nat.reduceSub, Int.reduceEq, Int.reduceBNe, Int.reduceBEq, ne_eq, not_false_eq_true, pc, ls, bs, and_true, true_and, and_self, Nat.reduceAdd, Nat.le_refl, leafP, la, ag, beq_self_eq_true, ba_beq]
theorem texts3_law (xs : List PV) (h : FitA [.str, .int .i64, .str] xs) : Meets Tryz.prog Gd 5 xs (.val (.bool true)) := by
  obtain ⟨_, _, rfl, h1, h⟩ := fita_cons h
  obtain ⟨_, _, rfl, h2, h⟩ := fita_cons h
  obtain ⟨_, _, rfl, h3, h⟩ := fita_cons h
  obtain rfl := fita_nil h
  obtain ⟨a, rfl, _⟩ := fit_str h1
  obtain ⟨n, rfl, _⟩ := fit_i h2
  obtain ⟨b, rfl, _⟩ := fit_str h3
  exact texts3_n a n b
end Go.Proofs.YtfbmphbmidlijaaGreatDoor.S
namespace Gb
open Go Go.RowKit Go.Sx
theorem l60_no' {l : List (List UInt8)} (h : l.any long60 = false) : ∀ a ∈ l, a.length ≤ 60 := fun a ha => by
  have h1 : ¬ long60 a = true := List.any_eq_false.1 h a ha
  unfold long60 at h1
  simpa using h1
theorem bool_same (b : Bool) : (b == b) = true := by cases b <;> rfl
end Gb
namespace Go.Proofs.YtfbmphbmidlijaaGreatDoor.S
open Go Go.Sx Go.RowKit Gb Go.Shelf
end Go.Proofs.YtfbmphbmidlijaaGreatDoor.S
namespace Go.Proofs.YtfbmphbmidlijaaGreatDoor.S
open Go Go.Sx Go.RowKit Gb Go.Shelf
set_option maxRecDepth 100000 in
set_option maxHeartbeats 4000000 in
theorem npow10_n (k : Nat) (hk : k < 60) : Meets Tryz.prog Gd 44 [dP 10, iP k] (.tup [dP (10 ^ k), iP 0]) := by
  refine meets_of_vc (Y := {}) (N := 37) (rs := [.tmp 4, .tmp 5]) mix tk gd Tryz.func44 rfl (by kernel_rfl) rfl rfl (by simp) (by kernel_rfl) ?_
  have l10 : Lw 10 ≤ 1 := Lw_le (by decide)
  have e1 : dP 10 = .val (.string ⟨(Lib.decDigits 10).toArray⟩) := rfl
  have d0 : decide ((k : Int) < 0) = false := decide_eq_false (by omega)
  have d1 : decide ((k : Int) > 64) = false := decide_eq_false (by omega)
  rw [e1]
  simp (maxSteps := 10000000) only [↓sx, sx, ↓ty, ↓reduceIte, Nat.reduceEqDiff, Nat.reduceBeqDiff, Nat.reduceAdd, Nat.reduceLeDiff, Nat.reduceLT, Nat.reduceMul, Nat.reduceSub, Int.reduceEq, Int.reduceBNe, Int.reduceBEq, ne_eq, not_false_eq_true, pc, ls, bs, and_true, true_and, and_self, Nat.reduceAdd, Nat.le_refl, leafP]
  refine CallT.mk (t := ⟨⟩) (nvalid_d 10 (by omega)) ?_
  simp (maxSteps := 10000000) only [↓sx, sx, ↓ty, ↓reduceIte, Nat.reduceEqDiff, Nat.reduceBeqDiff, Nat.reduceAdd, Nat.reduceLeDiff, Nat.reduceLT, Nat.reduceMul, Nat.reduceSub, Int.reduceEq, Int.reduceBNe, Int.reduceBEq, ne_eq, not_false_eq_true, pc, ls, bs, and_true, true_and, and_self, Nat.reduceAdd, Nat.le_refl, leafP, d0, d1]
  refine CallT.mk (t := ⟨⟩) (nread_d 10 (by omega)) ?_
  simp (maxSteps := 10000000) only [↓sx, sx, ↓ty, ↓reduceIte, Nat.reduceEqDiff, Nat.reduceBeqDiff, Nat.reduceAdd, Nat.reduceLeDiff, Nat.reduceLT, Nat.reduceMul, Nat.reduceSub, Int.reduceEq, Int.reduceBNe, Int.reduceBEq, ne_eq, not_false_eq_true, pc, ls, bs, and_true, true_and, and_self, Nat.reduceAdd, Nat.le_refl, leafP]
  have w1 : nP 1 = .sl 1 [.val (.int .u32 1)] := by rw [nP_c, wl_one]; rfl
  refine loopK_of (fun p : Nat × Nat × Nat => [(0, .p (dP 10)), (1, .p (.val (.int .i64 (p.1 : Nat)))), (4, .p (strP [])), (5, .p (iP 0)), (6, .p (nP (10 ^ p.2.1))), (7, .p (nP (10 ^ p.2.2)))]) (fun _ => []) (fun _ => []) (fun p => p.2.1 + p.2.2 * p.1 = k ∧ p.2.2 ≤ 2 * k + 1 ∧ p.1 ≤ k) (fun p => p.1) (k, 0, 1) ⟨by dsimp only; omega, by dsimp only; omega, Nat.le_refl _⟩ ?_ ?_
  · rw [show (10 : Nat) ^ (0 : Nat) = 1 from rfl, w1]
    simp (maxSteps := 10000000) only [isE_nil, is_cons, bo_p, bo_box, bo_orow, bo_rowp, any_cons', all_cons', all_nil', Bool.true_or, Bool.or_true, ↓sx, sx, ↓reduceIte, Nat.reduceEqDiff, Nat.reduceBeqDiff]
    rw [show (10 : Nat) ^ (1 : Nat) = 10 from rfl]
    exact ⟨rfl, rfl, rfl, rfl, rfl⟩
  · rintro ⟨m, i, j⟩ ⟨h1, h2, h3⟩
    dsimp only at h1 h2 h3
    have t1 := Lw_ten i
    have t2 := Lw_ten j
    by_cases hm : m = 0
    · subst hm
      have g0 : decide (((0 : Nat) : Int) > 0) = false := by decide
      obtain rfl : i = k := by omega
      simp (maxSteps := 10000000) only [↓sx, sx, ↓ty, ↓reduceIte, Nat.reduceEqDiff, Nat.reduceBeqDiff, Nat.reduceAdd, Nat.reduceLeDiff, Nat.reduceLT, Nat.reduceMul, Nat.reduceSub, Int.reduceEq, Int.reduceBNe, Int.reduceBEq, ne_eq, not_false_eq_true, pc, ls, bs, and_true, true_and, and_self, Nat.reduceAdd, Nat.le_refl, leafP, g0]
      refine CallT.mk (t := ⟨⟩) (text_n (10 ^ i) (by omega)) ?_
      simp (maxSteps := 10000000) only [↓sx, sx, ↓ty, ↓reduceIte, Nat.reduceEqDiff, Nat.reduceBeqDiff, Nat.reduceAdd, Nat.reduceLeDiff, Nat.reduceLT, Nat.reduceMul, Nat.reduceSub, Int.reduceEq, Int.reduceBNe, Int.reduceBEq, ne_eq, not_false_eq_true, pc, ls, bs, and_true, true_and, and_self, Nat.reduceAdd, Nat.le_refl, leafP]
    · have g0 : decide ((m : Int) > 0) = true := decide_eq_true (by omega)
      have tm : Int.tmod (m : Int) 2 = ((m % 2 : Nat) : Int) := by rw [tmod_pos (by omega)]; push_cast; rfl
      have td : IntKind.i64.wrap (Int.tdiv (m : Int) 2) = ((m / 2 : Nat) : Int) := by rw [tdiv_pos (by omega), i64_id (by omega) (by omega)]; push_cast; rfl
      have jk : j ≤ k := by have := Nat.le_mul_of_pos_right j (show 0 < m by omega); omega
      have ij : i ≤ k := by omega
      have b2 := ntimes_n gd (10 ^ j) (10 ^ j) (by omega) (by omega)
      rw [← Nat.pow_add] at b2
      have dm := Nat.div_add_mod m 2
      have ej : j * m = 2 * (j * (m / 2)) + j * (m % 2) := by
        have : j * (2 * (m / 2) + m % 2) = j * m := by rw [dm]
        rw [← this, Nat.mul_add, Nat.mul_left_comm]
      have ej2 : (j + j) * (m / 2) = 2 * (j * (m / 2)) := by rw [Nat.add_mul]; omega
      by_cases ho : m % 2 = 1
      · have g1 : (((m % 2 : Nat) : Int) == 1) = true := by rw [ho]; rfl
        have b1 := ntimes_n gd (10 ^ i) (10 ^ j) (by omega) (by omega)
        rw [← Nat.pow_add] at b1
        simp (maxSteps := 10000000) only [↓sx, sx, ↓ty, ↓reduceIte, Nat.reduceEqDiff, Nat.reduceBeqDiff, Nat.reduceAdd, Nat.reduceLeDiff, Nat.reduceLT, Nat.reduceMul, Nat.reduceSub, Int.reduceEq, Int.reduceBNe, Int.reduceBEq, ne_eq, not_false_eq_true, pc, ls, bs, and_true, true_and, and_self, Nat.reduceAdd, Nat.le_refl, leafP, g0, tm, g1]
        refine CallT.mk (t := ⟨⟩) b1 ?_
        simp (maxSteps := 10000000) only [↓sx, sx, ↓ty, ↓reduceIte, Nat.reduceEqDiff, Nat.reduceBeqDiff, Nat.reduceAdd, Nat.reduceLeDiff, Nat.reduceLT, Nat.reduceMul, Nat.reduceSub, Int.reduceEq, Int.reduceBNe, Int.reduceBEq, ne_eq, not_false_eq_true, pc, ls, bs, and_true, true_and, and_self, Nat.reduceAdd, Nat.le_refl, leafP]
        refine CallT.mk (t := ⟨⟩) b2 ?_
        simp (maxSteps := 10000000) only [↓sx, sx, ↓ty, ↓reduceIte, Nat.reduceEqDiff, Nat.reduceBeqDiff, Nat.reduceAdd, Nat.reduceLeDiff, Nat.reduceLT, Nat.reduceMul, Nat.reduceSub, Int.reduceEq, Int.reduceBNe, Int.reduceBEq, ne_eq, not_false_eq_true, pc, ls, bs, and_true, true_and, and_self, Nat.reduceAdd, Nat.le_refl, leafP, td]
        rw [ho, Nat.mul_one] at ej
        refine NextK.mk (m / 2, i + j, j + j) (by dsimp only; omega) ⟨by dsimp only; rw [ej2]; omega, by dsimp only; omega, by dsimp only; omega⟩ ?_
        simp (maxSteps := 10000000) only [isE_nil, is_cons, bo_p, bo_box, bo_orow, bo_rowp, any_cons', all_cons', all_nil', Bool.true_or, Bool.or_true, ↓sx, sx, ↓reduceIte, Nat.reduceEqDiff, Nat.reduceBeqDiff]
        exact ⟨rfl, rfl, rfl⟩
      · have g1 : (((m % 2 : Nat) : Int) == 1) = false := by rw [show m % 2 = 0 by omega]; rfl
        simp (maxSteps := 10000000) only [↓sx, sx, ↓ty, ↓reduceIte, Nat.reduceEqDiff, Nat.reduceBeqDiff, Nat.reduceAdd, Nat.reduceLeDiff, Nat.reduceLT, Nat.reduceMul, Nat.reduceSub, Int.reduceEq, Int.reduceBNe, Int.reduceBEq, ne_eq, not_false_eq_true, pc, ls, bs, and_true, true_and, and_self, Nat.reduceAdd, Nat.le_refl, leafP, g0, tm, g1]
        refine CallT.mk (t := ⟨⟩) b2 ?_
        simp (maxSteps := 10000000) only [↓sx, sx, ↓ty, ↓reduceIte, Nat.reduceEqDiff, Nat.reduceBeqDiff, Nat.reduceAdd, Nat.reduceLeDiff, Nat.reduceLT, Nat.reduceMul, Nat.reduceSub, Int.reduceEq, Int.reduceBNe, Int.reduceBEq, ne_eq, not_false_eq_true, pc, ls, bs, and_true, true_and, and_self, Nat.reduceAdd, Nat.le_refl, leafP, td]
        rw [show m % 2 = 0 by omega, Nat.mul_zero] at ej
        refine NextK.mk (m / 2, i, j + j) (by dsimp only; omega) ⟨by dsimp only; rw [ej2]; omega, by dsimp only; omega, by dsimp only; omega⟩ ?_
        simp (maxSteps := 10000000) only [isE_nil, is_cons, bo_p, bo_box, bo_orow, bo_rowp, any_cons', all_cons', all_nil', Bool.true_or, Bool.or_true, ↓sx, sx, ↓reduceIte, Nat.reduceEqDiff, Nat.reduceBeqDiff]
        exact ⟨rfl, rfl, rfl, rfl⟩
end Go.Proofs.YtfbmphbmidlijaaGreatDoor.S
namespace Gb
open Go Go.RowKit Go.Sx
def decV (x : Rat) (n : Nat) : Rat := Rat.normalize (zmk (decide (x.num < 0 ∧ decS x n ≠ 0)) (decS x n)) (10 ^ n) (ten_ne n)
theorem isRat_no46 {l : List UInt8} (h : isRat l = true) : ∀ c ∈ l, c ≠ 46 := by
  have hd : ∀ n : Nat, ∀ c ∈ Lib.decDigits n, c ≠ 46 := by
    intro n c hc e
    have := dec_isD n c hc
    rw [e] at this; cases this
  have hi : ∀ z : Int, ∀ c ∈ iD z, c ≠ 46 := by
    intro z c hc
    unfold iD at hc
    split at hc
    · rcases List.mem_cons.1 hc with rfl | hc
      · decide
      · exact hd _ c hc
    · exact hd _ c hc
  intro c hc
  rw [← rT_ratOf h] at hc
  unfold rT at hc
  split at hc
  · exact hi _ c hc
  · rcases List.mem_append.1 hc with hc | hc
    · exact hi _ c hc
    · rcases List.mem_cons.1 hc with rfl | hc
      · decide
      · exact hd _ c hc
theorem cutD_at : ∀ (w p : List UInt8), (∀ c ∈ w, c ≠ 46) → cutD (w ++ 46 :: p) = (w, p, true)
  | [], p, _ => by rw [List.nil_append, cutD_cons, if_pos rfl]
  | c :: r, p, h => by
    rw [List.cons_append, cutD_cons, if_neg (h c (List.mem_cons_self ..)), cutD_at r p fun x hx => h x (List.mem_cons_of_mem _ hx)]
theorem cutD_none : ∀ (s : List UInt8), (∀ c ∈ s, c ≠ 46) → cutD s = (s, [], false)
  | [], _ => rfl
  | c :: r, h => by
    rw [cutD_cons, if_neg (h c (List.mem_cons_self ..)), cutD_none r fun x hx => h x (List.mem_cons_of_mem _ hx)]
theorem dg_no46 {l : List UInt8} (h : ∀ c ∈ l, isD c = true) : ∀ c ∈ l, c ≠ 46 := by
  intro c hc e
  have := h c hc
  rw [e] at this; cases this
theorem dg_no45 {l : List UInt8} (h : ∀ c ∈ l, isD c = true) : ∀ c ∈ l, c ≠ 45 := by
  intro c hc e
  have := h c hc
  rw [e] at this; cases this
theorem padT_isD (n m : Nat) : ∀ c ∈ padT n (Lib.decDigits m), isD c = true := by
  intro c hc
  unfold padT at hc
  rcases List.mem_append.1 hc with hc | hc
  · rw [(List.mem_replicate.1 hc).2]; rfl
  · exact dec_isD m c hc
theorem padT_val (n m : Nat) : natOf (padT n (Lib.decDigits m)) = m := by
  unfold padT
  rw [natOf_append, natOf_zeros, natOf_dec]; omega
theorem dotT_parts {n : Nat} (hn : n ≠ 0) (m : Nat) : ∃ A B, dotT n (Lib.decDigits m) = A ++ 46 :: B ∧ (∀ c ∈ A, isD c = true) ∧ (∀ c ∈ B, isD c = true) ∧ A ≠ [] ∧ B.length = n ∧ natOf (A ++ B) = m := by
  have hl := padT_len n (Lib.decDigits m)
  have hd := padT_isD n m
  refine ⟨(padT n (Lib.decDigits m)).take ((padT n (Lib.decDigits m)).length - n), (padT n (Lib.decDigits m)).drop ((padT n (Lib.decDigits m)).length - n), ?_, fun c hc => hd c (List.mem_of_mem_take hc), fun c hc => hd c (List.mem_of_mem_drop hc), ?_, ?_, ?_⟩
  · unfold dotT
    rw [if_neg hn, List.append_assoc]; rfl
  · intro e
    have := congrArg List.length e
    rw [List.length_take, List.length_nil] at this
    omega
  · rw [List.length_drop]; omega
  · rw [List.take_append_drop, padT_val]
theorem cutM_no {l : List UInt8} (h : ∀ c ∈ l, c ≠ 45) : cutM l = (l, false) := by
  cases l with
  | nil => rfl
  | cons c r => rw [cutM_cons, if_neg (h c (List.mem_cons_self ..))]
theorem digB_of {l : List UInt8} (h0 : l ≠ []) (h : ∀ x ∈ l, isD x = true) : digB l = true := by
  unfold digB
  rw [Bool.and_eq_true]
  refine ⟨by simpa using h0, List.all_eq_true.2 h⟩
theorem parse_dec (x : Rat) (n : Nat) : rparseP (decT x n) = .tup [rtP (decV x n), iP 0] := by
  unfold decT decV
  generalize decS x n = m
  by_cases hn : n = 0
  · subst hn
    have hv : ∀ b : Bool, Rat.normalize (zmk b m) (10 ^ 0) (ten_ne 0) = ((zmk b m : Int) : Rat) := by
      intro b
      have : (10 : Nat) ^ 0 = 1 := rfl
      simp only [this]
      rw [Rat.normalize_eq_mkRat, Rat.mkRat_eq_div, show ((1 : Nat) : Rat) = 1 from rfl, Rat.div_def, show (1 : Rat)⁻¹ = 1 by decide +kernel, Rat.mul_one]
    by_cases hc : x.num < 0 ∧ m ≠ 0
    · rw [if_pos hc, decide_eq_true hc, hv]
      have e : (45 :: dotT 0 (Lib.decDigits m)) = rT ((zmk true m : Int) : Rat) := by
        rw [rT_int]
        unfold dotT iD zmk
        rw [if_pos rfl, if_pos rfl, if_pos (by have := hc.2; omega)]
        congr 2; omega
      rw [e]
      unfold rparseP
      rw [isRat_rT, if_pos rfl]; rfl
    · rw [if_neg hc, decide_eq_false hc, hv]
      have e : dotT 0 (Lib.decDigits m) = rT ((zmk false m : Int) : Rat) := by
        rw [rT_int]
        unfold dotT iD zmk
        simp only [if_true, Bool.false_eq_true, if_false]
        rw [if_neg (by omega), Int.natAbs_natCast]
      rw [e]
      unfold rparseP
      rw [isRat_rT, if_pos rfl]; rfl
  · obtain ⟨A, B, hdot, hA, hB, hA0, hBl, hAB⟩ := dotT_parts hn m
    have hB0 : B ≠ [] := by rintro rfl; exact hn hBl.symm
    have main : ∀ (b : Bool) (t : List UInt8), cutM t = (dotT n (Lib.decDigits m), b) → (46 : UInt8) ∈ t → rparseP t = .tup [rtP (Rat.normalize (zmk b m) (10 ^ n) (ten_ne n)), iP 0] := by
      intro b t ht h46
      have hr : isRat t = false := by
        cases h : isRat t with
        | false => rfl
        | true => exact absurd rfl (isRat_no46 h 46 h46)
      unfold rparseP
      rw [hr, ht]
      simp only [Bool.false_eq_true, if_false]
      rw [hdot, cutD_at A B (dg_no46 hA)]
      simp only
      rw [digB_of hA0 hA, digB_of hB0 hB, if_pos (show (true && true) = true from rfl)]
      unfold parV
      simp only [hAB, hBl]
    have h46 : (46 : UInt8) ∈ dotT n (Lib.decDigits m) := by rw [hdot]; simp
    by_cases hc : x.num < 0 ∧ m ≠ 0
    · rw [if_pos hc, decide_eq_true hc]
      exact main true _ (by rw [cutM_cons, if_pos rfl]) (List.mem_cons_of_mem _ h46)
    · rw [if_neg hc, decide_eq_false hc]
      refine main false _ (cutM_no fun c hc2 => ?_) h46
      rw [hdot] at hc2
      rcases List.mem_append.1 hc2 with hc2 | hc2
      · exact dg_no45 hA c hc2
      · rcases List.mem_cons.1 hc2 with rfl | hc2
        · decide
        · exact dg_no45 hB c hc2
theorem cut_dec (x : Rat) (n : Nat) : (cutD (decT x n)).2.1.length = n ∧ (cutD (decT x n)).2.2 = decide (n > 0) := by
  unfold decT
  generalize decS x n = m
  by_cases hn : n = 0
  · subst hn
    have hd : ∀ c ∈ dotT 0 (Lib.decDigits m), c ≠ 46 := by
      unfold dotT; rw [if_pos rfl]; exact dg_no46 (dec_isD m)
    split
    · rw [cutD_none _ (by intro c hc; rcases List.mem_cons.1 hc with rfl | hc; decide; exact hd c hc)]; exact ⟨rfl, rfl⟩
    · rw [cutD_none _ hd]; exact ⟨rfl, rfl⟩
  · obtain ⟨A, B, hdot, hA, hB, hA0, hBl, hAB⟩ := dotT_parts hn m
    have hp : decide (n > 0) = true := decide_eq_true (by omega)
    rw [hdot, hp]
    split
    · rw [← List.cons_append, cutD_at (45 :: A) B (by intro c hc; rcases List.mem_cons.1 hc with rfl | hc; decide; exact dg_no46 hA c hc)]
      exact ⟨hBl, rfl⟩
    · rw [cutD_at A B (dg_no46 hA)]
      exact ⟨hBl, rfl⟩
theorem rat_ten (n : Nat) : (0 : Rat) < ((10 ^ n : Nat) : Rat) := by
  have : 0 < 10 ^ n := Nat.pow_pos (by omega)
  exact_mod_cast this
theorem decV_mul (x : Rat) (n : Nat) : decV x n * ((10 ^ n : Nat) : Rat) = ((zmk (decide (x.num < 0 ∧ decS x n ≠ 0)) (decS x n) : Int) : Rat) := by
  unfold decV
  have := rat_ten n
  rw [Rat.normalize_eq_mkRat, Rat.mkRat_eq_div, Rat.div_mul_cancel (by grind)]
theorem dec_near (x : Rat) (n : Nat) : (decV x n - x) * 2 * ((10 ^ n : Nat) : Rat) ≤ 1 ∧ -1 ≤ (decV x n - x) * 2 * ((10 ^ n : Nat) : Rat) := by
  have hv := decV_mul x n
  have hd := den_pos x
  have e := mul_den x
  have hm := Nat.div_add_mod (x.num.natAbs * 10 ^ n * 2 + x.den) (x.den * 2)
  have hlt := Nat.mod_lt (x.num.natAbs * 10 ^ n * 2 + x.den) (show 0 < x.den * 2 by have := x.den_nz; omega)
  rw [show (x.num.natAbs * 10 ^ n * 2 + x.den) / (x.den * 2) = decS x n from rfl] at hm
  generalize decV x n = v at *
  generalize decS x n = s at *
  generalize (x.num.natAbs * 10 ^ n * 2 + x.den) % (x.den * 2) = r at *
  have hq : ((x.den : Rat) * 2) * (s : Rat) + (r : Rat) = ((x.num.natAbs : Nat) : Rat) * ((10 ^ n : Nat) : Rat) * 2 + x.den := by
    have := congrArg (fun m : Nat => (m : Rat)) hm
    push_cast at this ⊢
    exact this
  have hr0 : (0 : Rat) ≤ (r : Rat) := by exact_mod_cast (show (0 : Int) ≤ (r : Int) by omega)
  have hr1 : (r : Rat) < (x.den : Rat) * 2 := by exact_mod_cast hlt
  generalize ((10 ^ n : Nat) : Rat) = t at *
  have scale : ∀ y : Rat, (y * (x.den : Rat) ≤ (x.den : Rat) → y ≤ 1) ∧ (-(x.den : Rat) ≤ y * (x.den : Rat) → -1 ≤ y) := by
    intro y
    constructor
    · intro h
      refine Rat.not_lt.1 fun c => ?_
      have := Rat.mul_pos (show 0 < y - 1 by grind) hd
      grind
    · intro h
      refine Rat.not_lt.1 fun c => ?_
      have := Rat.mul_pos (show 0 < -1 - y by grind) hd
      grind
  have key : (v - x) * 2 * t * (x.den : Rat) = ((v * t) * 2 * (x.den : Rat)) - (x * (x.den : Rat)) * 2 * t := by grind
  rw [e, hv] at key
  by_cases hneg : x.num < 0
  · have ha : (x.num : Rat) = -((x.num.natAbs : Nat) : Rat) := by
      have : x.num = -((x.num.natAbs : Nat) : Int) := by omega
      calc (x.num : Rat) = ((-((x.num.natAbs : Nat) : Int) : Int) : Rat) := by rw [← this]
        _ = -((x.num.natAbs : Nat) : Rat) := by push_cast; rfl
    have hz : ((zmk (decide (x.num < 0 ∧ s ≠ 0)) s : Int) : Rat) = -(s : Rat) := by
      by_cases h0 : s = 0
      · subst h0
        rw [decide_eq_false (by omega)]; rfl
      · rw [decide_eq_true ⟨hneg, h0⟩]
        unfold zmk
        push_cast
        rfl
    rw [ha, hz] at key
    generalize ((x.num.natAbs : Nat) : Rat) = a at *
    generalize (s : Rat) = s' at *
    generalize (r : Rat) = r' at *
    refine ⟨(scale _).1 ?_, (scale _).2 ?_⟩ <;> rw [key] <;> grind
  · have ha : (x.num : Rat) = ((x.num.natAbs : Nat) : Rat) := by
      have : x.num = ((x.num.natAbs : Nat) : Int) := by omega
      calc (x.num : Rat) = (((x.num.natAbs : Nat) : Int) : Rat) := by rw [← this]
        _ = ((x.num.natAbs : Nat) : Rat) := rfl
    have hz : ((zmk (decide (x.num < 0 ∧ s ≠ 0)) s : Int) : Rat) = (s : Rat) := by
      rw [decide_eq_false (fun h => hneg h.1)]; rfl
    rw [ha, hz] at key
    generalize ((x.num.natAbs : Nat) : Rat) = a at *
    generalize (s : Rat) = s' at *
    generalize (r : Rat) = r' at *
    refine ⟨(scale _).1 ?_, (scale _).2 ?_⟩ <;> rw [key] <;> grind
theorem decS_lw {x : Rat} {k : Nat} (hx : Sz 8 x) (hk : k < 20) : Lw (decS x k) ≤ 14 := by
  have h1 := hx.1
  have h2 := hx.2
  have lt := Lw_ten k
  have m1 := Lw_mul x.num.natAbs (10 ^ k)
  have m2 := Lw_mul (x.num.natAbs * 10 ^ k) 2
  have a1 := Lw_add (x.num.natAbs * 10 ^ k * 2) x.den
  have l2 : Lw 2 ≤ 1 := Lw_le (by decide)
  have : Lw (decS x k) ≤ Lw (x.num.natAbs * 10 ^ k * 2 + x.den) := Lw_mono (Nat.div_le_self _ _)
  omega
theorem decT_len {x : Rat} {k : Nat} (hx : Sz 8 x) (hk : k < 20) : (decT x k).length ≤ 300 := by
  have h1 := decS_lw hx hk
  have h2 := dec_len (decS x k)
  have h3 : (dotT k (Lib.decDigits (decS x k))).length ≤ 200 := by
    have hp := padT_len k (Lib.decDigits (decS x k))
    unfold dotT
    split
    · omega
    · rw [List.length_append, List.length_append, List.length_take, List.length_drop]
      simp only [List.length_cons, List.length_nil]
      omega
  unfold decT
  split
  · rw [List.length_cons]; omega
  · omega
theorem decV_sz {x : Rat} {k : Nat} (hx : Sz 8 x) (hk : k < 20) : Sz 20 (decV x k) := by
  have h1 := decS_lw hx hk
  have lt := Lw_ten k
  unfold decV
  exact Sz.norm _ (by rw [zmk_abs]; omega) (by omega)
end Gb
namespace Go.Proofs.YtfbmphbmidlijaaGreatDoor.S
open Go Go.Sx Go.RowKit Gb Go.Shelf
set_option maxRecDepth 100000 in
set_option maxHeartbeats 16000000 in
theorem near3_n (a : List UInt8) (n : Int) (hn0 : 0 ≤ n) (hn1 : n ≤ 255) : Meets Tryz.prog Gd 10 [strP a, .val (.int .u8 n)] (.val (.bool true)) := by
  refine meets_of_vc (Y := {}) (N := 179) (rs := [.tmp 4]) mix tk gd Tryz.func10 rfl (by kernel_rfl) rfl rfl (by simp) (by kernel_rfl) ?_
  have cv : IntKind.i64.wrap n = n := i64_id (by omega) (by omega)
  have tm : Int.tmod n 20 = n % 20 := tmod_pos hn0
  obtain ⟨k, hk⟩ : ∃ k : Nat, n % 20 = (k : Int) := ⟨(n % 20).toNat, by omega⟩
  have hk2 : k < 20 := by omega
  simp (maxSteps := 10000000) only [↓sx, sx, ↓ty, ↓reduceIte, Nat.reduceEqDiff, Nat.reduceBeqDiff, Nat.reduceAdd, Nat.reduceLeDiff, Nat.reduceLT, Nat.reduceMul, Nat.reduceSub, Int.reduceEq, Int.reduceBNe, Int.reduceBEq, ne_eq, not_false_eq_true, pc, ls, bs, and_true, true_and, and_self, Nat.reduceAdd, Nat.le_refl, leafP]
  refine CallT.mk (t := ⟨⟩) awake3_n ?_
  simp (maxSteps := 10000000) only [↓sx, sx, ↓ty, ↓reduceIte, Nat.reduceEqDiff, Nat.reduceBeqDiff, Nat.reduceAdd, Nat.reduceLeDiff, Nat.reduceLT, Nat.reduceMul, Nat.reduceSub, Int.reduceEq, Int.reduceBNe, Int.reduceBEq, ne_eq, not_false_eq_true, pc, ls, bs, and_true, true_and, and_self, Nat.reduceAdd, Nat.le_refl, leafP]
  refine CallT.mk (t := ⟨⟩) (long3_n [a] (by simp)) ?_
  cases hw : [a].any long60 with
  | true =>
    simp (maxSteps := 10000000) only [↓sx, sx, ↓ty, ↓reduceIte, Nat.reduceEqDiff, Nat.reduceBeqDiff, Nat.reduceAdd, Nat.reduceLeDiff, Nat.reduceLT, Nat.reduceMul, Nat.reduceSub, Int.reduceEq, Int.reduceBNe, Int.reduceBEq, ne_eq, not_false_eq_true, pc, ls, bs, and_true, true_and, and_self, Nat.reduceAdd, Nat.le_refl, leafP]
    refine CallT.mk (t := ⟨⟩) awake3_n ?_
    simp (maxSteps := 10000000) only [↓sx, sx, ↓ty, ↓reduceIte, Nat.reduceEqDiff, Nat.reduceBeqDiff, Nat.reduceAdd, Nat.reduceLeDiff, Nat.reduceLT, Nat.reduceMul, Nat.reduceSub, Int.reduceEq, Int.reduceBNe, Int.reduceBEq, ne_eq, not_false_eq_true, pc, ls, bs, and_true, true_and, and_self, Nat.reduceAdd, Nat.le_refl, leafP]
  | false =>
    have hla := l60_no' hw a (by simp)
    have D := rdecimal_n a k (by omega)
    have F := rfloor_n a (by omega)
    unfold rdecP at D
    unfold rfloorP at F
    simp (maxSteps := 10000000) only [↓sx, sx, ↓ty, ↓reduceIte, Nat.reduceEqDiff, Nat.reduceBeqDiff, Nat.reduceAdd, Nat.reduceLeDiff, Nat.reduceLT, Nat.reduceMul, Nat.reduceSub, Int.reduceEq, Int.reduceBNe, Int.reduceBEq, ne_eq, not_false_eq_true, pc, ls, bs, and_true, true_and, and_self, Nat.reduceAdd, Nat.le_refl, leafP, cv, tm, hk]
    refine CallT.mk (t := ⟨⟩) D ?_
    cases va : isRat a with
    | false =>
      simp only [va, Bool.false_eq_true, if_false] at F ⊢
      simp (maxSteps := 10000000) only [↓sx, sx, ↓ty, ↓reduceIte, Nat.reduceEqDiff, Nat.reduceBeqDiff, Nat.reduceAdd, Nat.reduceLeDiff, Nat.reduceLT, Nat.reduceMul, Nat.reduceSub, Int.reduceEq, Int.reduceBNe, Int.reduceBEq, ne_eq, not_false_eq_true, pc, ls, bs, and_true, true_and, and_self, Nat.reduceAdd, Nat.le_refl, leafP]
      refine CallT.mk (t := ⟨⟩) F ?_
      simp (maxSteps := 10000000) only [↓sx, sx, ↓ty, ↓reduceIte, Nat.reduceEqDiff, Nat.reduceBeqDiff, Nat.reduceAdd, Nat.reduceLeDiff, Nat.reduceLT, Nat.reduceMul, Nat.reduceSub, Int.reduceEq, Int.reduceBNe, Int.reduceBEq, ne_eq, not_false_eq_true, pc, ls, bs, and_true, true_and, and_self, Nat.reduceAdd, Nat.le_refl, leafP, ba_beq, beq_self_eq_true]
      refine CallT.mk (t := ⟨⟩) (rvalid_n a (by omega)) ?_
      rw [va]
      simp (maxSteps := 10000000) only [↓sx, sx, ↓ty, ↓reduceIte, Nat.reduceEqDiff, Nat.reduceBeqDiff, Nat.reduceAdd, Nat.reduceLeDiff, Nat.reduceLT, Nat.reduceMul, Nat.reduceSub, Int.reduceEq, Int.reduceBNe, Int.reduceBEq, ne_eq, not_false_eq_true, pc, ls, bs, and_true, true_and, and_self, Nat.reduceAdd, Nat.le_refl, leafP]
    | true =>
      obtain ⟨x, rfl, sx'⟩ := rT_of va
      rw [va, if_pos rfl, ratOf_rT] at F
      rw [if_pos rfl, if_neg (show ¬ ((k : Int) < 0 ∨ (k : Int) > 64) by omega), ratOf_rT, show ((k : Int)).toNat = k from rfl]
      have sx' := sx'.mono (m := 8) (by omega)
      have hfl := Lw_floor sx'
      obtain ⟨c1, c2⟩ := cut_dec x k
      have P := rparse_n (decT x k) (by have := decT_len sx' hk2; omega)
      rw [parse_dec] at P
      have CU := cut46_n (decT x k) (by have := decT_len sx' hk2; omega)
      have lt := Lw_ten k
      have sv := decV_sz sx' hk2
      have S1 := rop_q rsub_n (decV x k) x (sv.mono (by omega)) (sx'.mono (by omega))
      have sd := (sv.mono (m := 40) (by omega)).sub (sx'.mono (m := 40) (by omega))
      have d10 : dP 10 = strP [49, 48] := by unfold dP; rw [show (10 : Nat) = natOf [49, 48] from rfl, dec_natOf (by decide +kernel)]
      have PW := npow10_n k (by omega)
      rw [d10] at PW
      have r2 : rtP 2 = strP [50] := rt_lit (by decide +kernel) (by decide +kernel)
      have r1 : rtP 1 = strP [49] := rtP_1
      have rm1 : rtP (-1) = strP [45, 49] := rt_lit (by decide +kernel) (by decide +kernel)
      have r0 : rtP 0 = strP [48] := rtP_0
      have s2 : Sz 81 (2 : Rat) := Sz.int (z := 2) (Nat.le_trans (Lw_le (k := 1) (by decide)) (by omega)) (by omega)
      have M1 := rop_q rmul_n (decV x k - x) 2 (sd.mono (by omega)) (s2.mono (by omega))
      rw [r2] at M1
      have sm1 := sd.mul s2
      have tx : dP (10 ^ k) = rtP ((10 ^ k : Nat) : Rat) := by
        have := siP_rt ((10 ^ k : Nat) : Int)
        rw [siP_nat] at this
        rw [this]; rfl
      have st : Sz 162 ((10 ^ k : Nat) : Rat) := Sz.int (z := ((10 ^ k : Nat) : Int)) (by rw [Int.natAbs_natCast]; omega) (by omega)
      have M2 := rop_q rmul_n ((decV x k - x) * 2) ((10 ^ k : Nat) : Rat) (sm1.mono (by omega)) (st.mono (by omega))
      rw [← tx] at M2
      have sm2 := sm1.mul st
      obtain ⟨n1, n2⟩ := dec_near x k
      have C1 := rcmp_q ((decV x k - x) * 2 * ((10 ^ k : Nat) : Rat)) 1 (sm2.mono (by omega)) (Sz1 _ (by omega))
      have C2 := rcmp_q ((decV x k - x) * 2 * ((10 ^ k : Nat) : Rat)) (-1) (sm2.mono (by omega)) (Sz1 _ (by omega)).neg
      rw [r1] at C1
      rw [rm1] at C2
      have g1 : decide (((decV x k - x) * 2 * ((10 ^ k : Nat) : Rat) - 1).num.sign ≤ 0) = true := decide_eq_true ((le_sign _ _).2 n1)
      have g2 : decide (((decV x k - x) * 2 * ((10 ^ k : Nat) : Rat) - -1).num.sign ≥ 0) = true := decide_eq_true ((ge_sign _ _).2 n2)
      have sf : Sz 10 (x.floor : Rat) := Sz.int (by omega) (by omega)
      have S2 := rop_q rsub_n x (x.floor : Rat) (sx'.mono (by omega)) (sf.mono (by omega))
      rw [← siP_rt] at S2
      have sr := (sx'.mono (m := 10) (by omega)).sub sf
      have C3 := rcmp_q (x - x.floor) 0 (sr.mono (by omega)) (Sz0 _ (by omega))
      have C4 := rcmp_q (x - x.floor) 1 (sr.mono (by omega)) (Sz1 _ (by omega))
      rw [r0] at C3
      rw [r1] at C4
      have f1 := Rat.floor_le x
      have f2 := floor_lt_add x
      have g3 : decide ((x - (x.floor : Rat) - 0).num.sign ≥ 0) = true := decide_eq_true ((ge_sign _ _).2 (by grind))
      have g4 : decide ((x - (x.floor : Rat) - 1).num.sign < 0) = true := decide_eq_true ((lt_sign _ _).2 (by grind))
      have kz : decide ((k : Int) > 0) = decide (k > 0) := by congr 1; apply propext; omega
      have g5 : ((((cutD (decT x k)).2.1.length : Nat) : Int) == (k : Int)) = true := by rw [c1]; simp
      rw [c2] at CU
      simp (maxSteps := 10000000) only [↓sx, sx, ↓ty, ↓reduceIte, Nat.reduceEqDiff, Nat.reduceBeqDiff, Nat.reduceAdd, Nat.reduceLeDiff, Nat.reduceLT, Nat.reduceMul, Nat.reduceSub, Int.reduceEq, Int.reduceBNe, Int.reduceBEq, ne_eq, not_false_eq_true, pc, ls, bs, and_true, true_and, and_self, Nat.reduceAdd, Nat.le_refl, leafP]
      refine CallT.mk (t := ⟨⟩) F ?_
      simp (maxSteps := 10000000) only [↓sx, sx, ↓ty, ↓reduceIte, Nat.reduceEqDiff, Nat.reduceBeqDiff, Nat.reduceAdd, Nat.reduceLeDiff, Nat.reduceLT, Nat.reduceMul, Nat.reduceSub, Int.reduceEq, Int.reduceBNe, Int.reduceBEq, ne_eq, not_false_eq_true, pc, ls, bs, and_true, true_and, and_self, Nat.reduceAdd, Nat.le_refl, leafP]
      refine CallT.mk (t := ⟨⟩) CU ?_
      simp (maxSteps := 10000000) only [↓sx, sx, ↓ty, ↓reduceIte, Nat.reduceEqDiff, Nat.reduceBeqDiff, Nat.reduceAdd, Nat.reduceLeDiff, Nat.reduceLT, Nat.reduceMul, Nat.reduceSub, Int.reduceEq, Int.reduceBNe, Int.reduceBEq, ne_eq, not_false_eq_true, pc, ls, bs, and_true, true_and, and_self, Nat.reduceAdd, Nat.le_refl, leafP, la, cv, tm, hk]
      refine CallT.mk (t := ⟨⟩) P ?_
      simp (maxSteps := 10000000) only [↓sx, sx, ↓ty, ↓reduceIte, Nat.reduceEqDiff, Nat.reduceBeqDiff, Nat.reduceAdd, Nat.reduceLeDiff, Nat.reduceLT, Nat.reduceMul, Nat.reduceSub, Int.reduceEq, Int.reduceBNe, Int.reduceBEq, ne_eq, not_false_eq_true, pc, ls, bs, and_true, true_and, and_self, Nat.reduceAdd, Nat.le_refl, leafP, la, cv, tm, hk]
      refine CallT.mk (t := ⟨⟩) S1 ?_
      simp (maxSteps := 10000000) only [↓sx, sx, ↓ty, ↓reduceIte, Nat.reduceEqDiff, Nat.reduceBeqDiff, Nat.reduceAdd, Nat.reduceLeDiff, Nat.reduceLT, Nat.reduceMul, Nat.reduceSub, Int.reduceEq, Int.reduceBNe, Int.reduceBEq, ne_eq, not_false_eq_true, pc, ls, bs, and_true, true_and, and_self, Nat.reduceAdd, Nat.le_refl, leafP, la, cv, tm, hk]
      refine CallT.mk (t := ⟨⟩) PW ?_
      simp (maxSteps := 10000000) only [↓sx, sx, ↓ty, ↓reduceIte, Nat.reduceEqDiff, Nat.reduceBeqDiff, Nat.reduceAdd, Nat.reduceLeDiff, Nat.reduceLT, Nat.reduceMul, Nat.reduceSub, Int.reduceEq, Int.reduceBNe, Int.reduceBEq, ne_eq, not_false_eq_true, pc, ls, bs, and_true, true_and, and_self, Nat.reduceAdd, Nat.le_refl, leafP, la, cv, tm, hk]
      refine CallT.mk (t := ⟨⟩) M1 ?_
      simp (maxSteps := 10000000) only [↓sx, sx, ↓ty, ↓reduceIte, Nat.reduceEqDiff, Nat.reduceBeqDiff, Nat.reduceAdd, Nat.reduceLeDiff, Nat.reduceLT, Nat.reduceMul, Nat.reduceSub, Int.reduceEq, Int.reduceBNe, Int.reduceBEq, ne_eq, not_false_eq_true, pc, ls, bs, and_true, true_and, and_self, Nat.reduceAdd, Nat.le_refl, leafP, la, cv, tm, hk]
      refine CallT.mk (t := ⟨⟩) M2 ?_
      simp (maxSteps := 10000000) only [↓sx, sx, ↓ty, ↓reduceIte, Nat.reduceEqDiff, Nat.reduceBeqDiff, Nat.reduceAdd, Nat.reduceLeDiff, Nat.reduceLT, Nat.reduceMul, Nat.reduceSub, Int.reduceEq, Int.reduceBNe, Int.reduceBEq, ne_eq, not_false_eq_true, pc, ls, bs, and_true, true_and, and_self, Nat.reduceAdd, Nat.le_refl, leafP, la, cv, tm, hk]
      refine CallT.mk (t := ⟨⟩) C1 ?_
      simp (maxSteps := 10000000) only [↓sx, sx, ↓ty, ↓reduceIte, Nat.reduceEqDiff, Nat.reduceBeqDiff, Nat.reduceAdd, Nat.reduceLeDiff, Nat.reduceLT, Nat.reduceMul, Nat.reduceSub, Int.reduceEq, Int.reduceBNe, Int.reduceBEq, ne_eq, not_false_eq_true, pc, ls, bs, and_true, true_and, and_self, Nat.reduceAdd, Nat.le_refl, leafP, la, cv, tm, hk]
      refine CallT.mk (t := ⟨⟩) C2 ?_
      simp (maxSteps := 10000000) only [↓sx, sx, ↓ty, ↓reduceIte, Nat.reduceEqDiff, Nat.reduceBeqDiff, Nat.reduceAdd, Nat.reduceLeDiff, Nat.reduceLT, Nat.reduceMul, Nat.reduceSub, Int.reduceEq, Int.reduceBNe, Int.reduceBEq, ne_eq, not_false_eq_true, pc, ls, bs, and_true, true_and, and_self, Nat.reduceAdd, Nat.le_refl, leafP, la, cv, tm, hk]
      refine CallT.mk (t := ⟨⟩) S2 ?_
      simp (maxSteps := 10000000) only [↓sx, sx, ↓ty, ↓reduceIte, Nat.reduceEqDiff, Nat.reduceBeqDiff, Nat.reduceAdd, Nat.reduceLeDiff, Nat.reduceLT, Nat.reduceMul, Nat.reduceSub, Int.reduceEq, Int.reduceBNe, Int.reduceBEq, ne_eq, not_false_eq_true, pc, ls, bs, and_true, true_and, and_self, Nat.reduceAdd, Nat.le_refl, leafP, la, cv, tm, hk]
      refine CallT.mk (t := ⟨⟩) C3 ?_
      simp (maxSteps := 10000000) only [↓sx, sx, ↓ty, ↓reduceIte, Nat.reduceEqDiff, Nat.reduceBeqDiff, Nat.reduceAdd, Nat.reduceLeDiff, Nat.reduceLT, Nat.reduceMul, Nat.reduceSub, Int.reduceEq, Int.reduceBNe, Int.reduceBEq, ne_eq, not_false_eq_true, pc, ls, bs, and_true, true_and, and_self, Nat.reduceAdd, Nat.le_refl, leafP, la, cv, tm, hk]
      refine CallT.mk (t := ⟨⟩) C4 ?_
      simp (maxSteps := 10000000) only [↓sx, sx, ↓ty, ↓reduceIte, Nat.reduceEqDiff, Nat.reduceBeqDiff, Nat.reduceAdd, Nat.reduceLeDiff, Nat.reduceLT, Nat.reduceMul, Nat.reduceSub, Int.reduceEq, Int.reduceBNe, Int.reduceBEq, ne_eq, not_false_eq_true, pc, ls, bs, and_true, true_and, and_self, Nat.reduceAdd, Nat.le_refl, leafP, la, ag, beq_self_eq_true, w4, Int.reduceAdd, cv, tm, hk, kz, bool_same, g1, g2, g3, g4, g5]
theorem near3_law (xs : List PV) (h : FitA [.str, .int .u8] xs) : Meets Tryz.prog Gd 10 xs (.val (.bool true)) := by
  obtain ⟨_, _, rfl, h1, h⟩ := fita_cons h
  obtain ⟨_, _, rfl, h2, h⟩ := fita_cons h
  obtain rfl := fita_nil h
  obtain ⟨a, rfl, _⟩ := fit_str h1
  obtain ⟨n, rfl, hn⟩ := fit_int h2
  have := bounds_u8 hn
  exact near3_n a n this.1 this.2
end Go.Proofs.YtfbmphbmidlijaaGreatDoor.S
