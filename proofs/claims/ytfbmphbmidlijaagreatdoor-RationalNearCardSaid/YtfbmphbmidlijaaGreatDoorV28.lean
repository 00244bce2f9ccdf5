/- A part of a proof; the last text of this claim says of what. -/
import Derived.Test.YtfbmphbmidlijaaGreatDoorV27
import Derived.ChangeSame
import Derived.OpenShut
import Derived.Carry
import Derived.ChangeOld
set_option linter.unusedVariables false
set_option linter.unusedSimpArgs false
set_option linter.unusedSectionVars false
namespace Gb
open Go Go.RowKit Go.Sx
theorem dec_ten (n : Nat) : Lib.decDigits (10 ^ n) = 49 :: List.replicate n 48 := by
  have h : isNat (49 :: List.replicate n 48) = true := by
    rw [isNat_iff]
    refine ⟨by simp, fun c hc => ?_, .inr (by simp)⟩
    rcases List.mem_cons.1 hc with rfl | hc
    · rfl
    · rw [(List.mem_replicate.1 hc).2]; rfl
  rw [← natOf_ten, dec_natOf h]
def decS (x : Rat) (n : Nat) : Nat := (x.num.natAbs * 10 ^ n * 2 + x.den) / (x.den * 2)
def padT (n : Nat) (s : List UInt8) : List UInt8 := List.replicate (n + 1 - s.length) 48 ++ s
def dotT (n : Nat) (s : List UInt8) : List UInt8 := if n = 0 then s else ((padT n s).take ((padT n s).length - n) ++ [46]) ++ (padT n s).drop ((padT n s).length - n)
def decT (x : Rat) (n : Nat) : List UInt8 := if x.num < 0 ∧ decS x n ≠ 0 then 45 :: dotT n (Lib.decDigits (decS x n)) else dotT n (Lib.decDigits (decS x n))
def rdecP (l : List UInt8) (n : Int) : PV := if isRat l then (if n < 0 ∨ n > 64 then .tup [strP [], iP 2] else .tup [strP (decT (ratOf l) n.toNat), iP 0]) else .tup [strP [], iP 1]
theorem padT_len (n : Nat) (s : List UInt8) : (padT n s).length = max (n + 1) s.length := by unfold padT; rw [List.length_append, List.length_replicate]; omega
end Gb
namespace Go.Proofs.YtfbmphbmidlijaaGreatDoor.S
open Go Go.Sx Go.RowKit Gb Go.Shelf
set_option maxRecDepth 100000 in
theorem power_t (n : Nat) (h : n < 100000) : Meets Tryz.prog Gd 74 [iP n] (dP (10 ^ n)) := by
  refine meets_of_vc (Y := {}) (N := 6) (rs := [.tmp 2]) mix tk gd Tryz.func74 rfl (by kernel_rfl) rfl rfl (by simp) (by kernel_rfl) ?_
  have r := repeat_n [48] n (by simp; omega) (by omega)
  rw [rep_zeros] at r
  simp (maxSteps := 10000000) only [↓sx, sx, ↓ty, ↓reduceIte, Nat.reduceEqDiff, Nat.reduceBeqDiff, Nat.reduceAdd, Nat.reduceLeDiff, Nat.reduceLT, Nat.reduceMul, Nat.reduceSub, Int.reduceEq, Int.reduceBNe, Int.reduceBEq, ne_eq, not_false_eq_true, pc, ls, bs, and_true, true_and, and_self, Nat.reduceAdd, Nat.le_refl, leafP]
  refine CallT.mk (t := ⟨⟩) r ?_
  have hl : (List.replicate n (48 : UInt8)).length = n := by simp
  unfold dP
  rw [dec_ten]
  simp (maxSteps := 10000000) only [↓sx, sx, ↓ty, ↓reduceIte, Nat.reduceEqDiff, Nat.reduceBeqDiff, Nat.reduceAdd, Nat.reduceLeDiff, Nat.reduceLT, Nat.reduceMul, Nat.reduceSub, Int.reduceEq, Int.reduceBNe, Int.reduceBEq, ne_eq, not_false_eq_true, pc, ls, bs, and_true, true_and, and_self, Nat.reduceAdd, Nat.le_refl, leafP, hl]
  omega
set_option maxRecDepth 100000 in
set_option maxHeartbeats 8000000 in
theorem rdecimal_n (l : List UInt8) (n : Int) (hl : l.length < 30000) : Meets Tryz.prog Gd 31 [strP l, iP n] (rdecP l n) := by
  refine meets_of_vc (Y := {}) (N := 101) (rs := [.tmp 4, .tmp 5]) mix tk gd Tryz.func31 rfl (by kernel_rfl) rfl rfl (by simp) (by kernel_rfl) ?_
  unfold rdecP
  simp (maxSteps := 10000000) only [↓sx, sx, ↓ty, ↓reduceIte, Nat.reduceEqDiff, Nat.reduceBeqDiff, Nat.reduceAdd, Nat.reduceLeDiff, Nat.reduceLT, Nat.reduceMul, Nat.reduceSub, Int.reduceEq, Int.reduceBNe, Int.reduceBEq, ne_eq, not_false_eq_true, pc, ls, bs, and_true, true_and, and_self, Nat.reduceAdd, Nat.le_refl, leafP]
  refine CallT.mk (t := ⟨⟩) (fread_n l (by omega)) ?_
  cases h : isRat l with
  | false =>
    simp (maxSteps := 10000000) only [↓sx, sx, ↓ty, ↓reduceIte, Nat.reduceEqDiff, Nat.reduceBeqDiff, Nat.reduceAdd, Nat.reduceLeDiff, Nat.reduceLT, Nat.reduceMul, Nat.reduceSub, Int.reduceEq, Int.reduceBNe, Int.reduceBEq, ne_eq, not_false_eq_true, pc, ls, bs, and_true, true_and, and_self, Nat.reduceAdd, Nat.le_refl, leafP]
  | true =>
    rw [← fr_of h, if_pos rfl]
    have sx0 := (Sz.of h (k := 3999) (by omega))
    have z1 := sx0.1
    have z2 := sx0.2
    have q0 := (ratOf l).den_nz
    by_cases hn : n < 0 ∨ n > 64
    · rw [if_pos hn]
      have d0 : decide (n < 0) = true ∨ (decide (n < 0) = false ∧ decide (n > 64) = true) := by
        by_cases h0 : n < 0
        · exact .inl (decide_eq_true h0)
        · exact .inr ⟨decide_eq_false h0, decide_eq_true (by omega)⟩
      rcases d0 with d0 | ⟨d0, d1⟩
      · simp (maxSteps := 10000000) only [↓sx, sx, ↓ty, ↓reduceIte, Nat.reduceEqDiff, Nat.reduceBeqDiff, Nat.reduceAdd, Nat.reduceLeDiff, Nat.reduceLT, Nat.reduceMul, Nat.reduceSub, Int.reduceEq, Int.reduceBNe, Int.reduceBEq, ne_eq, not_false_eq_true, pc, ls, bs, and_true, true_and, and_self, Nat.reduceAdd, Nat.le_refl, leafP, pd, d0]
      · simp (maxSteps := 10000000) only [↓sx, sx, ↓ty, ↓reduceIte, Nat.reduceEqDiff, Nat.reduceBeqDiff, Nat.reduceAdd, Nat.reduceLeDiff, Nat.reduceLT, Nat.reduceMul, Nat.reduceSub, Int.reduceEq, Int.reduceBNe, Int.reduceBEq, ne_eq, not_false_eq_true, pc, ls, bs, and_true, true_and, and_self, Nat.reduceAdd, Nat.le_refl, leafP, pd, d0, d1]
    · rw [if_neg hn]
      obtain ⟨N, rfl⟩ : ∃ N : Nat, n = N := ⟨n.toNat, by omega⟩
      have hN : N ≤ 64 := by omega
      have d0 : decide ((N : Int) < 0) = false := decide_eq_false (by omega)
      have d1 : decide ((N : Int) > 64) = false := decide_eq_false (by omega)
      simp (maxSteps := 10000000) only [↓sx, sx, ↓ty, ↓reduceIte, Nat.reduceEqDiff, Nat.reduceBeqDiff, Nat.reduceAdd, Nat.reduceLeDiff, Nat.reduceLT, Nat.reduceMul, Nat.reduceSub, Int.reduceEq, Int.reduceBNe, Int.reduceBEq, ne_eq, not_false_eq_true, pc, ls, bs, and_true, true_and, and_self, Nat.reduceAdd, Nat.le_refl, leafP, pd, d0, d1]
      obtain ⟨p, hp⟩ : ∃ p, p = (ratOf l).num.natAbs := ⟨_, rfl⟩
      obtain ⟨q, hq⟩ : ∃ q, q = (ratOf l).den := ⟨_, rfl⟩
      rw [← hp] at z1
      rw [← hq] at z2 q0
      have lt := Lw_ten N
      have hsz : (List.replicate N (48 : UInt8)).length = N := by simp
      have m1 := nmul_n p (10 ^ N) (by omega) (by omega)
      have l1 := Lw_mul p (10 ^ N)
      have d2 : dP 2 = strP [50] := by unfold dP; rw [Lib.decDigits]; rfl
      have lw2 : Lw 2 ≤ 1 := Lw_le (by decide)
      have m2 := nmul_n (p * 10 ^ N) 2 (by omega) (by omega)
      have l2 := Lw_mul (p * 10 ^ N) 2
      have a1 := nadd_n (p * 10 ^ N * 2) q (by omega) (by omega)
      have l3 := Lw_add (p * 10 ^ N * 2) q
      have m3 := nmul_n q 2 (by omega) (by omega)
      have l4 := Lw_mul q 2
      have v1 := ndivmod_n (p * 10 ^ N * 2 + q) (q * 2) (by omega) (by omega) (by omega)
      rw [d2] at m2 m3
      have hS : decS (ratOf l) N = (p * 10 ^ N * 2 + q) / (q * 2) := by unfold decS; rw [hp, hq]
      have l5 : Lw ((p * 10 ^ N * 2 + q) / (q * 2)) ≤ Lw (p * 10 ^ N * 2 + q) := Lw_mono (Nat.div_le_self _ _)
      rw [← hS] at v1 l5
      have hdl := dec_len (decS (ratOf l) N)
      refine CallT.mk (t := ⟨⟩) (cutm_n (iD (ratOf l).num)) ?_
      rw [cutM_iD, ← hp]
      simp (maxSteps := 10000000) only [↓sx, sx, ↓ty, ↓reduceIte, Nat.reduceEqDiff, Nat.reduceBeqDiff, Nat.reduceAdd, Nat.reduceLeDiff, Nat.reduceLT, Nat.reduceMul, Nat.reduceSub, Int.reduceEq, Int.reduceBNe, Int.reduceBEq, ne_eq, not_false_eq_true, pc, ls, bs, and_true, true_and, and_self, Nat.reduceAdd, Nat.le_refl, leafP, pd]
      refine CallT.mk (t := ⟨⟩) (power_t N (by omega)) ?_
      simp (maxSteps := 10000000) only [↓sx, sx, ↓ty, ↓reduceIte, Nat.reduceEqDiff, Nat.reduceBeqDiff, Nat.reduceAdd, Nat.reduceLeDiff, Nat.reduceLT, Nat.reduceMul, Nat.reduceSub, Int.reduceEq, Int.reduceBNe, Int.reduceBEq, ne_eq, not_false_eq_true, pc, ls, bs, and_true, true_and, and_self, Nat.reduceAdd, Nat.le_refl, leafP, pd]
      refine CallT.mk (t := ⟨⟩) m1 ?_
      simp (maxSteps := 10000000) only [↓sx, sx, ↓ty, ↓reduceIte, Nat.reduceEqDiff, Nat.reduceBeqDiff, Nat.reduceAdd, Nat.reduceLeDiff, Nat.reduceLT, Nat.reduceMul, Nat.reduceSub, Int.reduceEq, Int.reduceBNe, Int.reduceBEq, ne_eq, not_false_eq_true, pc, ls, bs, and_true, true_and, and_self, Nat.reduceAdd, Nat.le_refl, leafP, pd]
      refine CallT.mk (t := ⟨⟩) m2 ?_
      simp (maxSteps := 10000000) only [↓sx, sx, ↓ty, ↓reduceIte, Nat.reduceEqDiff, Nat.reduceBeqDiff, Nat.reduceAdd, Nat.reduceLeDiff, Nat.reduceLT, Nat.reduceMul, Nat.reduceSub, Int.reduceEq, Int.reduceBNe, Int.reduceBEq, ne_eq, not_false_eq_true, pc, ls, bs, and_true, true_and, and_self, Nat.reduceAdd, Nat.le_refl, leafP, pd, ← hq]
      refine CallT.mk (t := ⟨⟩) a1 ?_
      simp (maxSteps := 10000000) only [↓sx, sx, ↓ty, ↓reduceIte, Nat.reduceEqDiff, Nat.reduceBeqDiff, Nat.reduceAdd, Nat.reduceLeDiff, Nat.reduceLT, Nat.reduceMul, Nat.reduceSub, Int.reduceEq, Int.reduceBNe, Int.reduceBEq, ne_eq, not_false_eq_true, pc, ls, bs, and_true, true_and, and_self, Nat.reduceAdd, Nat.le_refl, leafP, pd, ← hq]
      refine CallT.mk (t := ⟨⟩) m3 ?_
      simp (maxSteps := 10000000) only [↓sx, sx, ↓ty, ↓reduceIte, Nat.reduceEqDiff, Nat.reduceBeqDiff, Nat.reduceAdd, Nat.reduceLeDiff, Nat.reduceLT, Nat.reduceMul, Nat.reduceSub, Int.reduceEq, Int.reduceBNe, Int.reduceBEq, ne_eq, not_false_eq_true, pc, ls, bs, and_true, true_and, and_self, Nat.reduceAdd, Nat.le_refl, leafP, pd]
      refine CallT.mk (t := ⟨⟩) v1 ?_
      rw [show ((N : Int)).toNat = N from rfl]
      unfold decT dotT
      generalize decS (ratOf l) N = s at *
      generalize (ratOf l).num = z at *
      obtain ⟨L, hL⟩ : ∃ L, L = (Lib.decDigits s).length := ⟨_, rfl⟩
      rw [← hL] at hdl
      have wmx : (if (0 : Int) > IntKind.i64.wrap (IntKind.i64.wrap ((N : Int) + 1) - (L : Int)) then 0 else IntKind.i64.wrap (IntKind.i64.wrap ((N : Int) + 1) - (L : Int))) = ((N + 1 - L : Nat) : Int) := by
        rw [i64_id (x := (N : Int) + 1) (by omega) (by omega), i64_id (by omega) (by omega)]
        split <;> omega
      have rp := repeat_n [48] (N + 1 - L) (by simp; omega) (by omega)
      rw [rep_zeros] at rp
      obtain ⟨T1, hT1⟩ : ∃ T1, T1 = padT N (Lib.decDigits s) := ⟨_, rfl⟩
      have hpad : List.replicate (N + 1 - L) 48 ++ Lib.decDigits s = T1 := by rw [hT1, hL]; rfl
      have hTl : T1.length = max (N + 1) L := by rw [hT1, padT_len, hL]
      have hrl : (List.replicate (N + 1 - L) (48 : UInt8)).length = N + 1 - L := by simp
      have w5 : IntKind.i64.wrap ((T1.length : Int) - (N : Int)) = ((T1.length - N : Nat) : Int) := by rw [i64_id (by omega) (by omega)]; omega
      have w6 : (((T1.length - N : Nat) : Int)).toNat = T1.length - N := rfl
      have htk : List.take (T1.length - (T1.length - N)) (List.drop (T1.length - N) T1) = List.drop (T1.length - N) T1 := List.take_of_length_le (by rw [List.length_drop]; omega)
      have hl1 : (List.take (T1.length - N) T1).length = T1.length - N := by rw [List.length_take]; omega
      have hl2 : (List.drop (T1.length - N) T1).length = N := by rw [List.length_drop]; omega
      have hl3 : (List.take (T1.length - N) T1 ++ [46]).length = T1.length - N + 1 := by rw [List.length_append, hl1]; rfl
      have hl4 : (List.take (T1.length - N) T1 ++ [46] ++ List.drop (T1.length - N) T1).length = T1.length - N + 1 + N := by rw [List.length_append, hl3, hl2]
      rw [← hT1]
      by_cases hN0 : N = 0
      · subst hN0
        have d3 : decide (((0 : Nat) : Int) > 0) = false := by decide
        rw [if_pos rfl]
        by_cases hz : z < 0
        · have d4 := decide_eq_true hz
          by_cases hs : s = 0
          · have d5 := decide_eq_true hs
            rw [if_neg (by omega)]
            simp (maxSteps := 10000000) only [↓sx, sx, ↓ty, ↓reduceIte, Nat.reduceEqDiff, Nat.reduceBeqDiff, Nat.reduceAdd, Nat.reduceLeDiff, Nat.reduceLT, Nat.reduceMul, Nat.reduceSub, Int.reduceEq, Int.reduceBNe, Int.reduceBEq, ne_eq, not_false_eq_true, pc, ls, bs, and_true, true_and, and_self, Nat.reduceAdd, Nat.le_refl, leafP, pd, dec_eq0, ba_beq, d3, d4, d5, ← hL]
          · have d5 := decide_eq_false hs
            rw [if_pos ⟨hz, hs⟩]
            simp (maxSteps := 10000000) only [↓sx, sx, ↓ty, ↓reduceIte, Nat.reduceEqDiff, Nat.reduceBeqDiff, Nat.reduceAdd, Nat.reduceLeDiff, Nat.reduceLT, Nat.reduceMul, Nat.reduceSub, Int.reduceEq, Int.reduceBNe, Int.reduceBEq, ne_eq, not_false_eq_true, pc, ls, bs, and_true, true_and, and_self, Nat.reduceAdd, Nat.le_refl, leafP, pd, dec_eq0, ba_beq, d3, d4, d5, ← hL]
            omega
        · have d4 := decide_eq_false hz
          rw [if_neg (by omega)]
          simp (maxSteps := 10000000) only [↓sx, sx, ↓ty, ↓reduceIte, Nat.reduceEqDiff, Nat.reduceBeqDiff, Nat.reduceAdd, Nat.reduceLeDiff, Nat.reduceLT, Nat.reduceMul, Nat.reduceSub, Int.reduceEq, Int.reduceBNe, Int.reduceBEq, ne_eq, not_false_eq_true, pc, ls, bs, and_true, true_and, and_self, Nat.reduceAdd, Nat.le_refl, leafP, pd, dec_eq0, ba_beq, d3, d4, ← hL]
      · have d3 : decide ((N : Int) > 0) = true := decide_eq_true (by omega)
        rw [if_neg hN0]
        by_cases hz : z < 0
        · have d4 := decide_eq_true hz
          by_cases hs : s = 0
          · have d5 := decide_eq_true hs
            rw [if_neg (by omega)]
            simp (maxSteps := 10000000) only [↓sx, sx, ↓ty, ↓reduceIte, Nat.reduceEqDiff, Nat.reduceBeqDiff, Nat.reduceAdd, Nat.reduceLeDiff, Nat.reduceLT, Nat.reduceMul, Nat.reduceSub, Int.reduceEq, Int.reduceBNe, Int.reduceBEq, ne_eq, not_false_eq_true, pc, ls, bs, and_true, true_and, and_self, Nat.reduceAdd, Nat.le_refl, leafP, pd, dec_eq0, ba_beq, d3, d4, d5, ← hL, wmx]
            refine CallT.mk (t := ⟨⟩) rp ?_
            simp (maxSteps := 10000000) only [↓sx, sx, ↓ty, ↓reduceIte, Nat.reduceEqDiff, Nat.reduceBeqDiff, Nat.reduceAdd, Nat.reduceLeDiff, Nat.reduceLT, Nat.reduceMul, Nat.reduceSub, Int.reduceEq, Int.reduceBNe, Int.reduceBEq, ne_eq, not_false_eq_true, pc, ls, bs, and_true, true_and, and_self, Nat.reduceAdd, Nat.le_refl, leafP, pd, hpad, w5, hrl, ← hL, w6]
            rw [htk, hl1, hl3, hl2]
            refine ⟨?_, ?_, ?_, ?_, ?_, ?_⟩ <;> first | omega | rfl
          · have d5 := decide_eq_false hs
            rw [if_pos ⟨hz, hs⟩]
            simp (maxSteps := 10000000) only [↓sx, sx, ↓ty, ↓reduceIte, Nat.reduceEqDiff, Nat.reduceBeqDiff, Nat.reduceAdd, Nat.reduceLeDiff, Nat.reduceLT, Nat.reduceMul, Nat.reduceSub, Int.reduceEq, Int.reduceBNe, Int.reduceBEq, ne_eq, not_false_eq_true, pc, ls, bs, and_true, true_and, and_self, Nat.reduceAdd, Nat.le_refl, leafP, pd, dec_eq0, ba_beq, d3, d4, d5, ← hL, wmx]
            refine CallT.mk (t := ⟨⟩) rp ?_
            simp (maxSteps := 10000000) only [↓sx, sx, ↓ty, ↓reduceIte, Nat.reduceEqDiff, Nat.reduceBeqDiff, Nat.reduceAdd, Nat.reduceLeDiff, Nat.reduceLT, Nat.reduceMul, Nat.reduceSub, Int.reduceEq, Int.reduceBNe, Int.reduceBEq, ne_eq, not_false_eq_true, pc, ls, bs, and_true, true_and, and_self, Nat.reduceAdd, Nat.le_refl, leafP, pd, hpad, w5, hrl, ← hL, w6]
            rw [htk, hl1, hl3, hl2, hl4]
            refine ⟨?_, ?_, ?_, ?_, ?_, ?_, ?_⟩ <;> first | omega | rfl
        · have d4 := decide_eq_false hz
          rw [if_neg (by omega)]
          simp (maxSteps := 10000000) only [↓sx, sx, ↓ty, ↓reduceIte, Nat.reduceEqDiff, Nat.reduceBeqDiff, Nat.reduceAdd, Nat.reduceLeDiff, Nat.reduceLT, Nat.reduceMul, Nat.reduceSub, Int.reduceEq, Int.reduceBNe, Int.reduceBEq, ne_eq, not_false_eq_true, pc, ls, bs, and_true, true_and, and_self, Nat.reduceAdd, Nat.le_refl, leafP, pd, dec_eq0, ba_beq, d3, d4, ← hL, wmx]
          refine CallT.mk (t := ⟨⟩) rp ?_
          simp (maxSteps := 10000000) only [↓sx, sx, ↓ty, ↓reduceIte, Nat.reduceEqDiff, Nat.reduceBeqDiff, Nat.reduceAdd, Nat.reduceLeDiff, Nat.reduceLT, Nat.reduceMul, Nat.reduceSub, Int.reduceEq, Int.reduceBNe, Int.reduceBEq, ne_eq, not_false_eq_true, pc, ls, bs, and_true, true_and, and_self, Nat.reduceAdd, Nat.le_refl, leafP, pd, hpad, w5, hrl, ← hL, w6]
          rw [htk, hl1, hl3, hl2]
          refine ⟨?_, ?_, ?_, ?_, ?_, ?_⟩ <;> first | omega | rfl
end Go.Proofs.YtfbmphbmidlijaaGreatDoor.S
namespace Gb
open Go Go.RowKit Go.Sx
def cs10 : List UInt8 := [48, 49, 50, 51, 52, 53, 54, 55, 56, 57]
def ascC (i : Nat) : List PV := (List.range 256).map fun k => .val (.bool (decide (48 ≤ k) && decide (k < 48 + i)))
theorem ascC_len (i : Nat) : (ascC i).length = 256 := by unfold ascC; simp
theorem ascC_at (i k : Nat) (h : k < 256) : (ascC i)[k]? = some (.val (.bool (decide (48 ≤ k) && decide (k < 48 + i)))) := by
  unfold ascC
  rw [List.getElem?_map, List.getElem?_range h]; rfl
theorem asc0 : List.replicate 256 (PV.val (Value.bool false)) = ascC 0 := by
  refine List.ext_getElem? fun k => ?_
  by_cases hk : k < 256
  · rw [ascC_at _ _ hk, List.getElem?_replicate, if_pos hk]
    congr 3
    rw [eq_comm, Bool.and_eq_false_iff, decide_eq_false_iff_not, decide_eq_false_iff_not]
    omega
  · rw [List.getElem?_eq_none (by rw [List.length_replicate]; omega), List.getElem?_eq_none (by rw [ascC_len]; omega)]
theorem cs10_len : cs10.length = 10 := rfl
theorem cs10_at (i : Nat) (h : i < 10) : (cs10.getD i 0).toNat = 48 + i := by
  match i, h with
  | 0, _ => rfl
  | 1, _ => rfl
  | 2, _ => rfl
  | 3, _ => rfl
  | 4, _ => rfl
  | 5, _ => rfl
  | 6, _ => rfl
  | 7, _ => rfl
  | 8, _ => rfl
  | 9, _ => rfl
theorem ascC_set (i : Nat) (h : i < 10) : (ascC i).set (48 + i) (.val (.bool true)) = ascC (i + 1) := by
  refine List.ext_getElem? fun k => ?_
  rw [List.getElem?_set]
  by_cases hk : k < 256
  · rw [ascC_at _ _ hk, ascC_at _ _ hk, ascC_len]
    by_cases h1 : 48 + i = k
    · subst h1
      rw [if_pos rfl, if_pos (by omega)]
      simp
    · rw [if_neg h1]
      have : decide (k < 48 + i) = decide (k < 48 + (i + 1)) := by congr 1; apply propext; omega
      rw [this]
  · rw [if_neg (by omega), List.getElem?_eq_none (by rw [ascC_len]; omega), List.getElem?_eq_none (by rw [ascC_len]; omega)]
theorem ascC_put (i : Nat) (h : i < 10) : List.take (0 + (48 + i)) (ascC i) ++ [PV.val (Value.bool true)] ++ List.drop (0 + (48 + i) + 1) (ascC i) = ascC (i + 1) := by
  rw [Nat.zero_add, ← ascC_set i h, List.set_eq_take_append_cons_drop, if_pos (by rw [ascC_len]; omega), List.append_assoc]; rfl
end Gb
namespace Go.Proofs.YtfbmphbmidlijaaGreatDoor.S
open Go Go.Sx Go.RowKit Gb Go.Shelf
set_option maxRecDepth 100000 in
set_option maxHeartbeats 4000000 in
theorem ascset_n : Meets Tryz.prog Gd 134 [strP cs10] (.tup [.agg (ascC 10), .val (.bool true)]) := by
  refine meets_of_vc (Y := {}) (N := 21) (rs := [.cell 2 147, .tmp 3]) mix tk gd Tryz.func134 rfl (by kernel_rfl) rfl rfl (by simp) (by kernel_rfl) ?_
  simp (maxSteps := 10000000) only [↓sx, sx, ↓ty, ↓reduceIte, Nat.reduceEqDiff, Nat.reduceBeqDiff, Nat.reduceAdd, Nat.reduceLeDiff, Nat.reduceLT, Nat.reduceMul, Nat.reduceSub, Int.reduceEq, Int.reduceBNe, Int.reduceBEq, ne_eq, not_false_eq_true, pc, ls, bs, and_true, true_and, and_self, Nat.reduceAdd, Nat.le_refl, leafP, asc0]
  refine loopK_of (fun i : Nat => [(0, .p (strP cs10)), (2, .box 2 0), (3, .p (.val (.bool false))), (4, .p (.val (.int .i64 (i : Nat))))]) (fun i => [(2, (147, ascC i))]) (fun _ => []) (fun i => i ≤ 10) (fun i => 10 - i) 0 (by omega) ?_ ?_
  · simp (maxSteps := 10000000) only [isE_nil, is_cons, bo_p, bo_box, bo_orow, bo_rowp, any_cons', all_cons', all_nil', Bool.true_or, Bool.or_true, ↓sx, sx, ↓reduceIte, Nat.reduceEqDiff, Nat.reduceBeqDiff]
    rfl
  · intro i hi
    by_cases hil : i < 10
    · have hd := cs10_at i hil
      have e1 : decide ((i : Int) < ((10 : Nat) : Int)) = true := decide_eq_true (by omega)
      have e2 : decide (((48 + i : Nat) : Int) ≥ 128) = false := decide_eq_false (by omega)
      have hs := ascC_put i hil
      simp (maxSteps := 10000000) only [↓sx, sx, ↓ty, ↓reduceIte, Nat.reduceEqDiff, Nat.reduceBeqDiff, Nat.reduceAdd, Nat.reduceLeDiff, Nat.reduceLT, Nat.reduceMul, Nat.reduceSub, Int.reduceEq, Int.reduceBNe, Int.reduceBEq, ne_eq, not_false_eq_true, pc, ls, bs, and_true, true_and, and_self, Nat.reduceAdd, Nat.le_refl, leafP, e1, cs10_len, getD_get, hd, e2]
      refine ⟨⟨by omega, hil⟩, ⟨by omega, by omega⟩, by rw [ascC_len]; omega, NextK.mk (i + 1) (by omega) (by omega) ?_⟩
      simp (maxSteps := 10000000) only [isE_nil, is_cons, bo_p, bo_box, bo_orow, bo_rowp, any_cons', all_cons', all_nil', Bool.true_or, Bool.or_true, ↓sx, sx, ↓reduceIte, Nat.reduceEqDiff, Nat.reduceBeqDiff]
      rw [i64_id (by omega) (by omega), hs]
      exact ⟨rfl, rfl, rfl⟩
    · obtain rfl : i = 10 := by omega
      have e1 : decide (((10 : Nat) : Int) < ((10 : Nat) : Int)) = false := by decide
      have hl := ascC_len 10
      have ht : List.take 256 (ascC 10) = ascC 10 := List.take_of_length_le (by rw [hl]; omega)
      have hf : (ascC 10).all leafP = true := by unfold ascC; rw [List.all_map]; exact List.all_eq_true.2 fun _ _ => rfl
      have hz : List.drop 256 (ascC 10) = [] := List.drop_eq_nil_of_le (by rw [hl]; omega)
      simp (maxSteps := 10000000) only [↓sx, sx, ↓ty, ↓reduceIte, Nat.reduceEqDiff, Nat.reduceBeqDiff, Nat.reduceAdd, Nat.reduceLeDiff, Nat.reduceLT, Nat.reduceMul, Nat.reduceSub, Int.reduceEq, Int.reduceBNe, Int.reduceBEq, ne_eq, not_false_eq_true, pc, ls, bs, and_true, true_and, and_self, Nat.reduceAdd, Nat.le_refl, leafP, cs10_len, e1, ht, hl, hf, Nat.zero_add, hz, List.append_nil, List.append_nil]
set_option maxRecDepth 100000 in
theorem asccont_n (c : UInt8) : Meets Tryz.prog Gd 174 [.ptr (ascC 10), .val (.int .u8 (c.toNat : Nat))] (.val (.bool (isD c))) := by
  refine meets_of_vc (Y := {}) (N := 10) (rs := [.tmp 4]) mix tk gd Tryz.func174 rfl (by kernel_rfl) rfl rfl (by simp) (by kernel_rfl) ?_
  have hc : c.toNat < 256 := c.toNat_lt
  have hd := ascC_at 10 c.toNat hc
  have he : (decide (48 ≤ c.toNat) && decide (c.toNat < 48 + 10)) = isD c := by unfold isD; congr 2; apply propext; omega
  simp (maxSteps := 10000000) only [↓sx, sx, ↓ty, ↓reduceIte, Nat.reduceEqDiff, Nat.reduceBeqDiff, Nat.reduceAdd, Nat.reduceLeDiff, Nat.reduceLT, Nat.reduceMul, Nat.reduceSub, Int.reduceEq, Int.reduceBNe, Int.reduceBEq, ne_eq, not_false_eq_true, pc, ls, bs, and_true, true_and, and_self, Nat.reduceAdd, Nat.le_refl, leafP, hd, he]
  exact ⟨by omega, hc⟩
end Go.Proofs.YtfbmphbmidlijaaGreatDoor.S
namespace Gb
open Go Go.RowKit Go.Sx
def cutD : List UInt8 → List UInt8 × List UInt8 × Bool
  | [] => ([], [], false)
  | c :: r => if c = 46 then ([], r, true) else (c :: (cutD r).1, (cutD r).2.1, (cutD r).2.2)
theorem cutD_cons (c : UInt8) (r : List UInt8) : cutD (c :: r) = if c = 46 then ([], r, true) else (c :: (cutD r).1, (cutD r).2.1, (cutD r).2.2) := rfl
theorem idx_cutD : ∀ l, (Lib.indexByte l 46 = -1 ∧ cutD l = (l, [], false)) ∨ ∃ n : Nat, n < l.length ∧ Lib.indexByte l 46 = n ∧ cutD l = (l.take n, l.drop (n + 1), true)
  | [] => .inl ⟨rfl, rfl⟩
  | c :: r => by
    rw [cutD_cons, Lib.indexByte]
    by_cases h : c = 46
    · subst h
      exact .inr ⟨0, by simp, rfl, rfl⟩
    · rw [if_neg h, if_neg (by simpa using h)]
      rcases idx_cutD r with ⟨h1, h2⟩ | ⟨n, h0, h1, h2⟩
      · exact .inl ⟨by rw [h1]; rfl, by rw [h2]⟩
      · refine .inr ⟨n + 1, by simp; omega, ?_, ?_⟩
        · rw [h1, if_neg (by rw [beq_iff_eq]; omega)]; omega
        · rw [h2]; rfl
def trR (l : List UInt8) : List UInt8 := (l.reverse.dropWhile isD).reverse
theorem trR_snoc (l : List UInt8) (c : UInt8) : trR (l ++ [c]) = if isD c = true then trR l else l ++ [c] := by
  unfold trR
  rw [List.reverse_append, List.reverse_singleton, List.singleton_append, List.dropWhile_cons]
  split
  · rfl
  · simp
theorem dw_len (p : UInt8 → Bool) : ∀ l : List UInt8, (l.dropWhile p).length ≤ l.length
  | [] => Nat.le_refl _
  | c :: r => by
    rw [List.dropWhile_cons]
    have := dw_len p r
    split
    · simp; omega
    · simp
theorem trR_len (l : List UInt8) : (trR l).length ≤ l.length := by
  unfold trR
  have := dw_len isD l.reverse
  simpa using this
theorem dwn (p : UInt8 → Bool) : ∀ l : List UInt8, l.dropWhile p = [] ↔ ∀ x ∈ l, p x = true
  | [] => by simp
  | c :: r => by
    rw [List.dropWhile_cons]
    by_cases h : p c = true
    · rw [if_pos h, dwn p r]
      constructor
      · intro k x hx
        rcases List.mem_cons.1 hx with rfl | hx
        · exact h
        · exact k x hx
      · exact fun k x hx => k x (List.mem_cons_of_mem _ hx)
    · rw [if_neg h]
      constructor
      · intro k; cases k
      · exact fun k => absurd (k c (List.mem_cons_self ..)) h
theorem trR_all : ∀ (n : Nat) (l : List UInt8), l.length = n → ((∀ c ∈ trR l, isD c = true) ↔ ∀ c ∈ l, isD c = true)
  | 0, l, h => by rw [List.length_eq_zero_iff.1 h]; rfl
  | n + 1, l, h => by
    rcases List.eq_nil_or_concat l with rfl | ⟨a, c, rfl⟩
    · rfl
    · rw [List.concat_eq_append] at *
      rw [trR_snoc]
      by_cases hc : isD c = true
      · rw [if_pos hc, trR_all n a (by simp at h; omega)]
        constructor
        · intro k x hx
          rcases List.mem_append.1 hx with hx | hx
          · exact k x hx
          · rw [List.mem_singleton] at hx; rw [hx]; exact hc
        · exact fun k x hx => k x (List.mem_append_left _ hx)
      · rw [if_neg hc]
theorem dw_nil (l : List UInt8) : (trR l).dropWhile isD = [] ↔ ∀ c ∈ l, isD c = true := by rw [dwn, trR_all _ l rfl]
def digB (l : List UInt8) : Bool := !(l == []) && l.all isD
end Gb
namespace Go.Proofs.YtfbmphbmidlijaaGreatDoor.S
open Go Go.Sx Go.RowKit Gb Go.Shelf
set_option maxRecDepth 100000 in
set_option maxHeartbeats 4000000 in
theorem triml_n (l : List UInt8) (hl : l.length < 10000000) : Meets Tryz.prog Gd 135 [strP l, .ptr (ascC 10)] (strP (l.dropWhile isD)) := by
  refine meets_of_vc (Y := {}) (N := 16) (rs := [.tmp 4]) mix tk gd Tryz.func135 rfl (by kernel_rfl) rfl rfl (by simp) (by kernel_rfl) ?_
  simp (maxSteps := 10000000) only [↓sx, sx, ↓ty, ↓reduceIte, Nat.reduceEqDiff, Nat.reduceBeqDiff, Nat.reduceAdd, Nat.reduceLeDiff, Nat.reduceLT, Nat.reduceMul, Nat.reduceSub, Int.reduceEq, Int.reduceBNe, Int.reduceBEq, ne_eq, not_false_eq_true, pc, ls, bs, and_true, true_and, and_self, Nat.reduceAdd, Nat.le_refl, leafP]
  refine loopK_of (fun s : List UInt8 => [(0, .p (strP s)), (1, .p (.ptr (ascC 10))), (4, .p (strP []))]) (fun _ => []) (fun _ => []) (fun s => s.length ≤ l.length ∧ s.dropWhile isD = l.dropWhile isD) (fun s => s.length) l ⟨Nat.le_refl _, rfl⟩ ?_ ?_
  · simp (maxSteps := 10000000) only [isE_nil, is_cons, bo_p, bo_box, bo_orow, bo_rowp, any_cons', all_cons', all_nil', Bool.true_or, Bool.or_true, ↓sx, sx, ↓reduceIte, Nat.reduceEqDiff, Nat.reduceBeqDiff]
    try trivial
  · rintro s ⟨hs, hv⟩
    cases s with
    | nil =>
      have d0 : decide (((0 : Nat) : Int) > 0) = false := by decide
      simp (maxSteps := 10000000) only [↓sx, sx, ↓ty, ↓reduceIte, Nat.reduceEqDiff, Nat.reduceBeqDiff, Nat.reduceAdd, Nat.reduceLeDiff, Nat.reduceLT, Nat.reduceMul, Nat.reduceSub, Int.reduceEq, Int.reduceBNe, Int.reduceBEq, ne_eq, not_false_eq_true, pc, ls, bs, and_true, true_and, and_self, Nat.reduceAdd, Nat.le_refl, leafP, List.length_nil, d0]
      rw [← hv]
      rfl
    | cons c r =>
      have d0 : decide (((r.length + 1 : Nat) : Int) > 0) = true := decide_eq_true (by omega)
      rw [List.length_cons] at hs
      simp (maxSteps := 10000000) only [↓sx, sx, ↓ty, ↓reduceIte, Nat.reduceEqDiff, Nat.reduceBeqDiff, Nat.reduceAdd, Nat.reduceLeDiff, Nat.reduceLT, Nat.reduceMul, Nat.reduceSub, Int.reduceEq, Int.reduceBNe, Int.reduceBEq, ne_eq, not_false_eq_true, pc, ls, bs, and_true, true_and, and_self, Nat.reduceAdd, Nat.le_refl, leafP, List.length_cons, d0, getD_get, Option.getD_some]
      refine ⟨by omega, ?_⟩
      refine CallT.mk (t := ⟨⟩) (asccont_n c) ?_
      rw [List.dropWhile_cons] at hv
      cases hc : isD c with
      | true =>
        rw [hc, if_pos rfl] at hv
        simp (maxSteps := 10000000) only [↓sx, sx, ↓ty, ↓reduceIte, Nat.reduceEqDiff, Nat.reduceBeqDiff, Nat.reduceAdd, Nat.reduceLeDiff, Nat.reduceLT, Nat.reduceMul, Nat.reduceSub, Int.reduceEq, Int.reduceBNe, Int.reduceBEq, ne_eq, not_false_eq_true, pc, ls, bs, and_true, true_and, and_self, Nat.reduceAdd, Nat.le_refl, leafP]
        refine ⟨by omega, NextK.mk r (by simp) ⟨by omega, hv⟩ ?_⟩
        simp (maxSteps := 10000000) only [isE_nil, is_cons, bo_p, bo_box, bo_orow, bo_rowp, any_cons', all_cons', all_nil', Bool.true_or, Bool.or_true, ↓sx, sx, ↓reduceIte, Nat.reduceEqDiff, Nat.reduceBeqDiff]
        have e1 : List.take (r.length + 1 - Int.toNat 1) (List.drop (Int.toNat 1) (c :: r)) = r := by
          show List.take (r.length + 1 - 1) (List.drop 1 (c :: r)) = r
          rw [List.drop_one, List.tail_cons, List.take_of_length_le (by omega)]
        rw [e1]
        exact ⟨rfl, rfl⟩
      | false =>
        rw [hc, if_neg (by decide)] at hv
        simp (maxSteps := 10000000) only [↓sx, sx, ↓ty, ↓reduceIte, Nat.reduceEqDiff, Nat.reduceBeqDiff, Nat.reduceAdd, Nat.reduceLeDiff, Nat.reduceLT, Nat.reduceMul, Nat.reduceSub, Int.reduceEq, Int.reduceBNe, Int.reduceBEq, ne_eq, not_false_eq_true, pc, ls, bs, and_true, true_and, and_self, Nat.reduceAdd, Nat.le_refl, leafP]
        rw [← hv]
set_option maxRecDepth 100000 in
set_option maxHeartbeats 4000000 in
theorem trimr_n (l : List UInt8) (hl : l.length < 10000000) : Meets Tryz.prog Gd 172 [strP l, .ptr (ascC 10)] (strP (trR l)) := by
  refine meets_of_vc (Y := {}) (N := 22) (rs := [.tmp 4]) mix tk gd Tryz.func172 rfl (by kernel_rfl) rfl rfl (by simp) (by kernel_rfl) ?_
  simp (maxSteps := 10000000) only [↓sx, sx, ↓ty, ↓reduceIte, Nat.reduceEqDiff, Nat.reduceBeqDiff, Nat.reduceAdd, Nat.reduceLeDiff, Nat.reduceLT, Nat.reduceMul, Nat.reduceSub, Int.reduceEq, Int.reduceBNe, Int.reduceBEq, ne_eq, not_false_eq_true, pc, ls, bs, and_true, true_and, and_self, Nat.reduceAdd, Nat.le_refl, leafP]
  refine loopK_of (fun s : List UInt8 => [(0, .p (strP s)), (1, .p (.ptr (ascC 10))), (4, .p (strP []))]) (fun _ => []) (fun _ => []) (fun s => s.length ≤ l.length ∧ trR s = trR l) (fun s => s.length) l ⟨Nat.le_refl _, rfl⟩ ?_ ?_
  · simp (maxSteps := 10000000) only [isE_nil, is_cons, bo_p, bo_box, bo_orow, bo_rowp, any_cons', all_cons', all_nil', Bool.true_or, Bool.or_true, ↓sx, sx, ↓reduceIte, Nat.reduceEqDiff, Nat.reduceBeqDiff]
    try trivial
  · rintro s ⟨hs, hv⟩
    rcases List.eq_nil_or_concat s with rfl | ⟨a, c, rfl⟩
    · have d0 : decide (((0 : Nat) : Int) > 0) = false := by decide
      simp (maxSteps := 10000000) only [↓sx, sx, ↓ty, ↓reduceIte, Nat.reduceEqDiff, Nat.reduceBeqDiff, Nat.reduceAdd, Nat.reduceLeDiff, Nat.reduceLT, Nat.reduceMul, Nat.reduceSub, Int.reduceEq, Int.reduceBNe, Int.reduceBEq, ne_eq, not_false_eq_true, pc, ls, bs, and_true, true_and, and_self, Nat.reduceAdd, Nat.le_refl, leafP, List.length_nil, d0]
      rw [← hv]
      rfl
    · rw [List.concat_eq_append] at *
      have hal : (a ++ [c]).length = a.length + 1 := by simp
      have d0 : decide (((a.length + 1 : Nat) : Int) > 0) = true := decide_eq_true (by omega)
      rw [hal] at hs
      have wl1 : IntKind.i64.wrap (((a.length + 1 : Nat) : Int) - 1) = ((a.length : Nat) : Int) := by rw [i64_id (by omega) (by omega)]; omega
      have hat : (a ++ [c])[a.length]? = some c := by rw [List.getElem?_append_right (Nat.le_refl _), Nat.sub_self]; rfl
      have hn : ((a.length : Nat) : Int).toNat = a.length := rfl
      simp (maxSteps := 10000000) only [↓sx, sx, ↓ty, ↓reduceIte, Nat.reduceEqDiff, Nat.reduceBeqDiff, Nat.reduceAdd, Nat.reduceLeDiff, Nat.reduceLT, Nat.reduceMul, Nat.reduceSub, Int.reduceEq, Int.reduceBNe, Int.reduceBEq, ne_eq, not_false_eq_true, pc, ls, bs, and_true, true_and, and_self, Nat.reduceAdd, Nat.le_refl, leafP, hal, d0, getD_get, wl1, hat, hn, Option.getD_some]
      refine ⟨by omega, ?_⟩
      refine CallT.mk (t := ⟨⟩) (asccont_n c) ?_
      rw [trR_snoc] at hv
      cases hc : isD c with
      | true =>
        rw [hc, if_pos rfl] at hv
        simp (maxSteps := 10000000) only [↓sx, sx, ↓ty, ↓reduceIte, Nat.reduceEqDiff, Nat.reduceBeqDiff, Nat.reduceAdd, Nat.reduceLeDiff, Nat.reduceLT, Nat.reduceMul, Nat.reduceSub, Int.reduceEq, Int.reduceBNe, Int.reduceBEq, ne_eq, not_false_eq_true, pc, ls, bs, and_true, true_and, and_self, Nat.reduceAdd, Nat.le_refl, leafP, hal, wl1, hn]
        refine ⟨by omega, NextK.mk a (by simp) ⟨by omega, hv⟩ ?_⟩
        simp (maxSteps := 10000000) only [isE_nil, is_cons, bo_p, bo_box, bo_orow, bo_rowp, any_cons', all_cons', all_nil', Bool.true_or, Bool.or_true, ↓sx, sx, ↓reduceIte, Nat.reduceEqDiff, Nat.reduceBeqDiff]
        rw [show List.take a.length (a ++ [c]) = a by rw [List.take_append_of_le_length (Nat.le_refl _), List.take_length]]
        exact ⟨rfl, rfl⟩
      | false =>
        rw [hc, if_neg (by decide)] at hv
        simp (maxSteps := 10000000) only [↓sx, sx, ↓ty, ↓reduceIte, Nat.reduceEqDiff, Nat.reduceBeqDiff, Nat.reduceAdd, Nat.reduceLeDiff, Nat.reduceLT, Nat.reduceMul, Nat.reduceSub, Int.reduceEq, Int.reduceBNe, Int.reduceBEq, ne_eq, not_false_eq_true, pc, ls, bs, and_true, true_and, and_self, Nat.reduceAdd, Nat.le_refl, leafP]
        rw [← hv]
set_option maxRecDepth 100000 in
set_option maxHeartbeats 4000000 in
theorem trim10_n (l : List UInt8) (hl : l.length < 10000000) : Meets Tryz.prog Gd 132 [strP l, strP cs10] (strP ((trR l).dropWhile isD)) := by
  refine meets_of_vc (Y := {}) (N := 43) (rs := [.tmp 4]) mix tk gd Tryz.func132 rfl (by kernel_rfl) rfl rfl (by simp) (by kernel_rfl) ?_
  have hcs : (cs10 == []) = false := rfl
  have c1 : (((10 : Nat) : Int) == 1) = false := by decide
  cases hl0 : (l == []) with
  | true =>
    have : l = [] := eq_of_beq hl0
    subst this
    simp (maxSteps := 10000000) only [↓sx, sx, ↓ty, ↓reduceIte, Nat.reduceEqDiff, Nat.reduceBeqDiff, Nat.reduceAdd, Nat.reduceLeDiff, Nat.reduceLT, Nat.reduceMul, Nat.reduceSub, Int.reduceEq, Int.reduceBNe, Int.reduceBEq, ne_eq, not_false_eq_true, pc, ls, bs, and_true, true_and, and_self, Nat.reduceAdd, Nat.le_refl, leafP, ba_beq, hl0]
    rfl
  | false =>
    simp (maxSteps := 10000000) only [↓sx, sx, ↓ty, ↓reduceIte, Nat.reduceEqDiff, Nat.reduceBeqDiff, Nat.reduceAdd, Nat.reduceLeDiff, Nat.reduceLT, Nat.reduceMul, Nat.reduceSub, Int.reduceEq, Int.reduceBNe, Int.reduceBEq, ne_eq, not_false_eq_true, pc, ls, bs, and_true, true_and, and_self, Nat.reduceAdd, Nat.le_refl, leafP, ba_beq, hcs, cs10_len, c1, hl0]
    refine CallT.mk (t := ⟨⟩) ascset_n ?_
    simp (maxSteps := 10000000) only [↓sx, sx, ↓ty, ↓reduceIte, Nat.reduceEqDiff, Nat.reduceBeqDiff, Nat.reduceAdd, Nat.reduceLeDiff, Nat.reduceLT, Nat.reduceMul, Nat.reduceSub, Int.reduceEq, Int.reduceBNe, Int.reduceBEq, ne_eq, not_false_eq_true, pc, ls, bs, and_true, true_and, and_self, Nat.reduceAdd, Nat.le_refl, leafP]
    have hf : (ascC 10).all leafP = true := by unfold ascC; rw [List.all_map]; exact List.all_eq_true.2 fun _ _ => rfl
    have hap : ascC 10 ++ List.drop (0 + (ascC 10).length) (List.replicate 256 (PV.val (Value.bool false))) = ascC 10 := by
      rw [List.drop_eq_nil_of_le (by rw [ascC_len, List.length_replicate]; omega), List.append_nil]
    rw [hap]
    refine ⟨⟨ascC_len 10, by rw [ascC_len, List.length_replicate]; omega, hf⟩, ?_⟩
    refine CallT.mk (t := ⟨⟩) (trimr_n l hl) ?_
    simp (maxSteps := 10000000) only [↓sx, sx, ↓ty, ↓reduceIte, Nat.reduceEqDiff, Nat.reduceBeqDiff, Nat.reduceAdd, Nat.reduceLeDiff, Nat.reduceLT, Nat.reduceMul, Nat.reduceSub, Int.reduceEq, Int.reduceBNe, Int.reduceBEq, ne_eq, not_false_eq_true, pc, ls, bs, and_true, true_and, and_self, Nat.reduceAdd, Nat.le_refl, leafP]
    have hrl : (trR l).length ≤ l.length := trR_len l
    refine CallT.mk (t := ⟨⟩) (triml_n (trR l) (by omega)) ?_
    simp (maxSteps := 10000000) only [↓sx, sx, ↓ty, ↓reduceIte, Nat.reduceEqDiff, Nat.reduceBeqDiff, Nat.reduceAdd, Nat.reduceLeDiff, Nat.reduceLT, Nat.reduceMul, Nat.reduceSub, Int.reduceEq, Int.reduceBNe, Int.reduceBEq, ne_eq, not_false_eq_true, pc, ls, bs, and_true, true_and, and_self, Nat.reduceAdd, Nat.le_refl, leafP]
set_option maxRecDepth 100000 in
set_option maxHeartbeats 4000000 in
theorem digits_n (l : List UInt8) (hl : l.length < 10000000) : Meets Tryz.prog Gd 82 [strP l] (.val (.bool (digB l))) := by
  refine meets_of_vc (Y := {}) (N := 10) (rs := [.tmp 2]) mix tk gd Tryz.func82 rfl (by kernel_rfl) rfl rfl (by simp) (by kernel_rfl) ?_
  have tr := trim10_n l hl
  have hd : ((trR l).dropWhile isD == []) = l.all isD := by
    cases h : l.all isD with
    | true => rw [(dw_nil l).2 (List.all_eq_true.1 h)]; rfl
    | false =>
      rw [beq_eq_false_iff_ne]
      intro e
      rw [List.all_eq_true.2 ((dw_nil l).1 e)] at h
      cases h
  unfold digB
  cases hl0 : (l == []) with
  | true =>
    simp (maxSteps := 10000000) only [↓sx, sx, ↓ty, ↓reduceIte, Nat.reduceEqDiff, Nat.reduceBeqDiff, Nat.reduceAdd, Nat.reduceLeDiff, Nat.reduceLT, Nat.reduceMul, Nat.reduceSub, Int.reduceEq, Int.reduceBNe, Int.reduceBEq, ne_eq, not_false_eq_true, pc, ls, bs, and_true, true_and, and_self, Nat.reduceAdd, Nat.le_refl, leafP, ba_beq, hl0]
  | false =>
    simp (maxSteps := 10000000) only [↓sx, sx, ↓ty, ↓reduceIte, Nat.reduceEqDiff, Nat.reduceBeqDiff, Nat.reduceAdd, Nat.reduceLeDiff, Nat.reduceLT, Nat.reduceMul, Nat.reduceSub, Int.reduceEq, Int.reduceBNe, Int.reduceBEq, ne_eq, not_false_eq_true, pc, ls, bs, and_true, true_and, and_self, Nat.reduceAdd, Nat.le_refl, leafP, ba_beq, hl0]
    refine CallT.to (t := ⟨⟩) tr rfl ?_
    simp (maxSteps := 10000000) only [↓sx, sx, ↓ty, ↓reduceIte, Nat.reduceEqDiff, Nat.reduceBeqDiff, Nat.reduceAdd, Nat.reduceLeDiff, Nat.reduceLT, Nat.reduceMul, Nat.reduceSub, Int.reduceEq, Int.reduceBNe, Int.reduceBEq, ne_eq, not_false_eq_true, pc, ls, bs, and_true, true_and, and_self, Nat.reduceAdd, Nat.le_refl, leafP, ba_beq, hd]
end Go.Proofs.YtfbmphbmidlijaaGreatDoor.S
namespace Gb
open Go Go.RowKit Go.Sx
def simpQ : Nat → Rat → Rat → Rat
  | 0, x, _ => x
  | k + 1, x, y => if (x.floor : Rat) = x then x else if (x.floor : Rat) + 1 ≤ y then (x.floor : Rat) + 1 else (x.floor : Rat) + (simpQ k (y - x.floor)⁻¹ (x - x.floor)⁻¹)⁻¹
theorem num_den (r : Rat) : (r.num : Rat) / ((r.den : Nat) : Rat) = r := by
  have := Rat.divInt_eq_div r.num r.den
  rw [Rat.num_divInt_den] at this
  exact this.symm
theorem mul_den (r : Rat) : r * r.den = r.num := by
  have := num_den r
  have hd : (r.den : Rat) ≠ 0 := by exact_mod_cast r.den_nz
  calc r * r.den = (r.num : Rat) / (r.den : Rat) * r.den := by rw [this]
    _ = r.num := by rw [Rat.div_mul_cancel hd]
theorem num_pos0 {x : Rat} (h : 0 < x) : 0 < x.num := by
  have h1 := Rat.num_nonneg.2 (show 0 ≤ x by grind)
  have h2 : x.num ≠ 0 := fun e => by rw [Rat.num_eq_zero] at e; grind
  omega
theorem frac_bound {r : Rat} {a b : Int} (hb : 0 < b) (h : r * b = a) : (r.den : Int) ≤ b ∧ r.num.natAbs ≤ a.natAbs := by
  have h1 : r.num * b = a * r.den := by
    have e1 : (r.num : Rat) = r * r.den := by
      exact (mul_den r).symm
    have e2 : ((r.num * b : Int) : Rat) = ((a * r.den : Int) : Rat) := by
      push_cast
      rw [e1, ← h]
      grind
    exact_mod_cast e2
  have h2 : r.den ∣ b.natAbs := by
    have c : Nat.Coprime r.den r.num.natAbs := r.reduced.symm
    refine c.dvd_of_dvd_mul_left ?_
    have := congrArg Int.natAbs h1
    rw [Int.natAbs_mul, Int.natAbs_mul, Int.natAbs_natCast] at this
    exact ⟨a.natAbs, by rw [this, Nat.mul_comm]⟩
  obtain ⟨c, hc⟩ := h2
  have hd := r.den_nz
  have hc0 : c ≠ 0 := by rintro rfl; omega
  have hbc : b = r.den * c := by omega
  constructor
  · rw [hbc]
    have := Nat.le_mul_of_pos_right r.den (show 0 < c by omega)
    omega
  · have h3 : r.num.natAbs * (r.den * c) = a.natAbs * r.den := by
      have := congrArg Int.natAbs h1
      rw [Int.natAbs_mul, Int.natAbs_mul, Int.natAbs_natCast, hc] at this
      exact this
    have h4 : r.num.natAbs * c = a.natAbs := by
      have : r.den * (r.num.natAbs * c) = r.den * a.natAbs := by rw [Nat.mul_comm r.den a.natAbs, ← h3, Nat.mul_left_comm]
      exact Nat.eq_of_mul_eq_mul_left (by omega) this
    rw [← h4]
    exact Nat.le_mul_of_pos_right _ (by omega)
theorem den_pos (r : Rat) : (0 : Rat) < r.den := by
  have := r.den_nz
  exact_mod_cast (show (0 : Int) < (r.den : Int) by omega)
theorem step_bound {y : Rat} {f : Int} (h1 : (f : Rat) < y) : ((y - f)⁻¹.den : Int) ≤ y.num - f * y.den ∧ (y - f)⁻¹.num.natAbs ≤ y.den := by
  have h2 : 0 < y.num - f * y.den := by
    have : (f : Rat) * y.den < y * y.den := by
      have := Rat.mul_pos (show 0 < y - f by grind) (den_pos y); grind
    rw [mul_den] at this
    have : ((f * y.den : Int) : Rat) < (y.num : Rat) := by push_cast; exact this
    have : f * y.den < y.num := by exact_mod_cast this
    omega
  have h3 : (y - f)⁻¹ * ((y.num - f * y.den : Int) : Rat) = ((y.den : Int) : Rat) := by
    have e : ((y.num - f * y.den : Int) : Rat) = (y - f) * y.den := by
      push_cast
      have := mul_den y
      grind
    rw [e, ← Rat.mul_assoc, Rat.inv_mul_cancel _ (by grind), Rat.one_mul]; rfl
  have := frac_bound h2 h3
  exact ⟨this.1, by have := this.2; rwa [Int.natAbs_natCast] at this⟩
theorem inv_pos {x : Rat} (h : 0 < x) : 0 < x⁻¹ := by
  refine Rat.not_le.1 fun c => ?_
  have := Rat.mul_nonneg (show 0 ≤ -x⁻¹ by grind) (show 0 ≤ x by grind)
  have := Rat.inv_mul_cancel x (by grind)
  grind
theorem inv_mono {x y : Rat} (h : 0 < x) (hxy : x ≤ y) : y⁻¹ ≤ x⁻¹ := by
  have hy : 0 < y := by grind
  have ix := inv_pos h
  have iy := inv_pos hy
  have e1 := Rat.inv_mul_cancel x (by grind)
  have e2 := Rat.inv_mul_cancel y (by grind)
  have h1 := Rat.mul_nonneg (show 0 ≤ y - x by grind) (Rat.mul_nonneg (show 0 ≤ x⁻¹ by grind) (show 0 ≤ y⁻¹ by grind))
  have e3 : (y - x) * (x⁻¹ * y⁻¹) = x⁻¹ * (y⁻¹ * y) - y⁻¹ * (x⁻¹ * x) := by
    generalize x⁻¹ = a
    generalize y⁻¹ = b
    grind
  rw [e3, e1, e2] at h1
  grind
theorem floor_lt_add (x : Rat) : x < (x.floor : Rat) + 1 := by
  have := Rat.lt_floor_add_one x
  exact_mod_cast this
theorem simp_step {x y : Rat} (h0 : 0 < x) (hxy : x ≤ y) (h1 : (x.floor : Rat) ≠ x) (h2 : ¬ (x.floor : Rat) + 1 ≤ y) :
    0 < (y - x.floor)⁻¹ ∧ (y - x.floor)⁻¹ ≤ (x - x.floor)⁻¹ ∧ (y - x.floor)⁻¹.den + (x - x.floor)⁻¹.den < x.den + y.den ∧ (y - x.floor)⁻¹.num.natAbs ≤ y.den ∧ (x - x.floor)⁻¹.num.natAbs ≤ x.den ∧ (((y - x.floor)⁻¹.den : Nat) : Int) ≤ y.num - x.floor * y.den ∧ (((x - x.floor)⁻¹.den : Nat) : Int) ≤ x.num - x.floor * x.den := by
  have f1 : (x.floor : Rat) < x := by have := Rat.floor_le x; grind
  have sy := step_bound (y := y) (f := x.floor) (by grind)
  have sx := step_bound (y := x) (f := x.floor) f1
  refine ⟨inv_pos (by grind), inv_mono (by grind) (by grind), ?_, sy.2, sx.2, sy.1, sx.1⟩
  have lt : ∀ z : Rat, z < (x.floor : Rat) + 1 → z.num - x.floor * z.den < z.den := by
    intro z hz
    have : z * z.den < ((x.floor : Rat) + 1) * z.den := by have := Rat.mul_pos (show 0 < (x.floor : Rat) + 1 - z by grind) (den_pos z); grind
    rw [mul_den] at this
    have : (z.num : Rat) < (((x.floor + 1) * z.den : Int) : Rat) := by push_cast; exact this
    have : z.num < (x.floor + 1) * z.den := by exact_mod_cast this
    rw [Int.add_mul, Int.one_mul] at this
    omega
  have l1 := lt x (floor_lt_add x)
  have l2 := lt y (by grind)
  omega
theorem simp_ok : ∀ (k : Nat) (x y : Rat), x.den + y.den ≤ k → 0 < x → x ≤ y → 0 < simpQ k x y ∧ (simpQ k x y).num.natAbs ≤ x.num.natAbs ∧ (simpQ k x y).num.natAbs ≤ y.num.natAbs ∧ (simpQ k x y).den ≤ x.den ∧ (simpQ k x y).den ≤ y.den
  | 0, x, y, h, _, _ => by have := x.den_nz; omega
  | k + 1, x, y, h, h0, hxy => by
    have f0 : 0 ≤ x.floor := Rat.le_floor_iff.2 (by exact_mod_cast (show (0 : Rat) ≤ x by grind))
    have fq : (0 : Rat) ≤ (x.floor : Rat) := by exact_mod_cast f0
    have xn : 0 < x.num := by have := num_pos0 h0; omega
    have yn : 0 < y.num := by have := num_pos0 (show 0 < y by grind); omega
    have y1 := y.den_nz
    have x1 := x.den_nz
    have le_num : ∀ (z : Int) (w : Rat), (z : Rat) ≤ w → 0 ≤ z → z ≤ w.num := by
      intro z w hz hz0
      have : (z : Rat) * w.den ≤ w * w.den := by have := Rat.mul_nonneg (show 0 ≤ w - z by grind) (show (0 : Rat) ≤ w.den by have := den_pos w; grind); grind
      rw [mul_den] at this
      have : ((z * w.den : Int) : Rat) ≤ (w.num : Rat) := by push_cast; exact this
      have : z * w.den ≤ w.num := by exact_mod_cast this
      have : z * 1 ≤ z * w.den := Int.mul_le_mul_of_nonneg_left (by have := w.den_nz; omega) hz0
      omega
    rw [simpQ]
    by_cases h1 : (x.floor : Rat) = x
    · rw [if_pos h1]
      have d1 : x.den = 1 := by rw [← h1]; rfl
      have n1 : x.num = x.floor := by have := congrArg Rat.num h1; rwa [Rat.num_intCast, eq_comm] at this
      have := le_num x.floor y (by rw [h1]; exact hxy) f0
      exact ⟨h0, Nat.le_refl _, by omega, Nat.le_refl _, by omega⟩
    · rw [if_neg h1]
      by_cases h2 : (x.floor : Rat) + 1 ≤ y
      · rw [if_pos h2]
        have e : (x.floor : Rat) + 1 = ((x.floor + 1 : Int) : Rat) := by push_cast; rfl
        rw [e, Rat.num_intCast, Rat.den_intCast]
        rw [e] at h2
        have l1 := le_num (x.floor + 1) y h2 (by omega)
        have f1 : (x.floor : Rat) < x := by have := Rat.floor_le x; grind
        have l2 : x.floor + 1 ≤ x.num := by
          have : (x.floor : Rat) * x.den < x * x.den := by have := Rat.mul_pos (show 0 < x - x.floor by grind) (den_pos x); grind
          rw [mul_den] at this
          have : ((x.floor * x.den : Int) : Rat) < (x.num : Rat) := by push_cast; exact this
          have : x.floor * x.den < x.num := by exact_mod_cast this
          have : x.floor * 1 ≤ x.floor * x.den := Int.mul_le_mul_of_nonneg_left (by omega) f0
          omega
        exact ⟨by exact_mod_cast (show (0 : Int) < x.floor + 1 by omega), by omega, by omega, by omega, by omega⟩
      · rw [if_neg h2]
        obtain ⟨s1, s2, s3, s4, s5, s6, s7⟩ := simp_step h0 hxy h1 h2
        obtain ⟨r1, r2, r3, r4, r5⟩ := simp_ok k _ _ (by omega) s1 s2
        generalize simpQ k (y - x.floor)⁻¹ (x - x.floor)⁻¹ = r at *
        have rn : 0 < r.num := by have := num_pos0 r1; omega
        have hr : ((x.floor : Rat) + r⁻¹) * (r.num : Rat) = ((x.floor * r.num + r.den : Int) : Rat) := by
          have e := mul_den r
          have e2 := Rat.inv_mul_cancel r (by grind)
          push_cast
          rw [Rat.add_mul]
          congr 1
          rw [← e, ← Rat.mul_assoc, e2, Rat.one_mul]
        have b := frac_bound rn hr
        have p1 : x.floor * r.num ≤ x.floor * x.den := Int.mul_le_mul_of_nonneg_left (by omega) f0
        have p2 : x.floor * r.num ≤ x.floor * y.den := Int.mul_le_mul_of_nonneg_left (by omega) f0
        have p3 : 0 ≤ x.floor * r.num := Int.mul_nonneg f0 (by omega)
        exact ⟨by have := inv_pos r1; grind, by omega, by omega, by omega, by omega⟩
theorem sz_of {r x : Rat} {k : Nat} (hx : Sz k x) (h1 : r.num.natAbs ≤ x.num.natAbs) (h2 : r.den ≤ x.den) : Sz k r := ⟨Nat.le_trans (Lw_mono h1) hx.1, Nat.le_trans (Lw_mono h2) hx.2⟩
def simplV (x y : Rat) : Rat := if 0 < x then simpQ (x.den + y.den) x y else if y < 0 then -(simpQ ((-y).den + (-x).den) (-y) (-x)) else 0
def rsimplP (a b : List UInt8) : PV := if isRat a && isRat b then (if ratOf b < ratOf a then .tup [strP [], iP 5] else .tup [rtP (simplV (ratOf a) (ratOf b)), iP 0]) else .tup [strP [], iP 1]
end Gb
namespace Gb
open Go Go.RowKit Go.Sx
theorem frP_beq (x : Rat) : (iD x.floor == iD x.num && ([49] == Lib.decDigits x.den)) = decide ((x.floor : Rat) = x) := by
  by_cases h : (x.floor : Rat) = x
  · rw [decide_eq_true h]
    have d1 : x.den = 1 := by rw [← h]; rfl
    have n1 : x.num = x.floor := by have := congrArg Rat.num h; rwa [Rat.num_intCast, eq_comm] at this
    rw [d1, n1, dec_1]; simp
  · rw [decide_eq_false h]
    rw [Bool.and_eq_false_iff]
    by_cases hd : x.den = 1
    · left
      rw [beq_eq_false_iff_ne]
      intro e
      have : x.floor = x.num := by rw [Rat.floor_def, hd]; simp
      refine h ?_
      rw [this]
      have := mul_den x
      rw [hd] at this
      rw [← this]
      simp
    · right
      rw [beq_eq_false_iff_ne]
      intro e
      have := congrArg natOf e
      rw [natOf_dec, ← dec_1, natOf_dec] at this
      omega
theorem sign_cases0 (x : Rat) : (x.num.sign = -1 ∧ x < 0) ∨ (x.num.sign = 0 ∧ x = 0) ∨ (x.num.sign = 1 ∧ 0 < x) := by
  by_cases h : 0 < x
  · exact .inr (.inr ⟨Int.sign_eq_one_of_pos (num_pos0 h), h⟩)
  · by_cases h2 : x = 0
    · subst h2; exact .inr (.inl ⟨rfl, rfl⟩)
    · left
      have : 0 < (-x).num := num_pos0 (by grind)
      rw [Rat.neg_num] at this
      exact ⟨Int.sign_eq_neg_one_of_neg (by omega), by grind⟩
theorem fr_int (z : Int) : frP (z : Rat) = .agg [siP z, strP [49]] := by unfold frP; rw [Rat.num_intCast, Rat.den_intCast]; unfold dP; rw [dec_1]
theorem fr_one : frP 1 = .agg [strP [49], strP [49]] := by
  have := fr_int 1
  rw [show ((1 : Int) : Rat) = 1 from rfl] at this
  rw [this]
  unfold siP iD
  rw [if_neg (by decide), show (1 : Int).natAbs = 1 from rfl, dec_1]
end Gb
namespace Go.Proofs.YtfbmphbmidlijaaGreatDoor.S
open Go Go.Sx Go.RowKit Gb Go.Shelf
set_option maxRecDepth 100000 in
set_option maxHeartbeats 8000000 in
theorem fsimplest_n : ∀ (k : Nat) (x y : Rat), x.den + y.den ≤ k → 0 < x → x ≤ y → Sz 4000 x → Sz 4000 y → Meets Tryz.prog Gd 87 [frP x, frP y] (frP (simpQ k x y))
  | 0, x, y, h, _, _, _, _ => by have := x.den_nz; omega
  | k + 1, x, y, h, h0, hxy, zx, zy => by
    have ih := fsimplest_n k
    refine meets_of_vc (Y := {}) (N := 39) (rs := [.cell 4 55]) mix tk gd Tryz.func87 rfl (by kernel_rfl) rfl rfl (by simp) (by kernel_rfl) ?_
    have hfl := Lw_floor zx
    have sf : Sz 4002 (x.floor : Rat) := Sz.int hfl (by omega)
    have s1 : Sz 4002 (1 : Rat) := Sz.int (z := 1) (Nat.le_trans (Lw_le (k := 1) (by decide)) (by omega)) (by omega)
    have fl := ffloor_n x (zx.mono (by omega))
    have bq := frP_beq x
    rw [simpQ]
    simp (maxSteps := 10000000) only [↓sx, sx, ↓ty, ↓reduceIte, Nat.reduceEqDiff, Nat.reduceBeqDiff, Nat.reduceAdd, Nat.reduceLeDiff, Nat.reduceLT, Nat.reduceMul, Nat.reduceSub, Int.reduceEq, Int.reduceBNe, Int.reduceBEq, ne_eq, not_false_eq_true, pc, ls, bs, and_true, true_and, and_self, Nat.reduceAdd, Nat.le_refl, leafP, pd]
    refine CallT.mk (t := ⟨⟩) fl ?_
    simp (maxSteps := 10000000) only [↓sx, sx, ↓ty, ↓reduceIte, Nat.reduceEqDiff, Nat.reduceBeqDiff, Nat.reduceAdd, Nat.reduceLeDiff, Nat.reduceLT, Nat.reduceMul, Nat.reduceSub, Int.reduceEq, Int.reduceBNe, Int.reduceBEq, ne_eq, not_false_eq_true, pc, ls, bs, and_true, true_and, and_self, Nat.reduceAdd, Nat.le_refl, leafP, pd, ag, ba_beq, bq]
    refine vcIf_dec (fun h1 => ?_) (fun h1 => ?_)
    · rw [if_pos h1]
    · rw [if_neg h1]
      have p1 := fplus_n (x.floor : Rat) 1 (sf.mono (by omega)) (s1.mono (by omega))
      rw [fr_int, fr_one] at p1
      have sn := (sf.add s1)
      refine CallT.mk (t := ⟨⟩) p1 ?_
      simp (maxSteps := 10000000) only [↓sx, sx, ↓ty, ↓reduceIte, Nat.reduceEqDiff, Nat.reduceBeqDiff, Nat.reduceAdd, Nat.reduceLeDiff, Nat.reduceLT, Nat.reduceMul, Nat.reduceSub, Int.reduceEq, Int.reduceBNe, Int.reduceBEq, ne_eq, not_false_eq_true, pc, ls, bs, and_true, true_and, and_self, Nat.reduceAdd, Nat.le_refl, leafP, pd]
      have o1 := fopp_n ((x.floor : Rat) + 1) (sn.mono (by omega))
      refine CallT.mk (t := ⟨⟩) o1 ?_
      simp (maxSteps := 10000000) only [↓sx, sx, ↓ty, ↓reduceIte, Nat.reduceEqDiff, Nat.reduceBeqDiff, Nat.reduceAdd, Nat.reduceLeDiff, Nat.reduceLT, Nat.reduceMul, Nat.reduceSub, Int.reduceEq, Int.reduceBNe, Int.reduceBEq, ne_eq, not_false_eq_true, pc, ls, bs, and_true, true_and, and_self, Nat.reduceAdd, Nat.le_refl, leafP, pd]
      have p2 := fplus_n y (-((x.floor : Rat) + 1)) (zy.mono (by omega)) (sn.neg.mono (by omega))
      have zz := (zy.mono (m := 8005) (by omega)).add sn.neg
      refine CallT.mk (t := ⟨⟩) p2 ?_
      simp (maxSteps := 10000000) only [↓sx, sx, ↓ty, ↓reduceIte, Nat.reduceEqDiff, Nat.reduceBeqDiff, Nat.reduceAdd, Nat.reduceLeDiff, Nat.reduceLT, Nat.reduceMul, Nat.reduceSub, Int.reduceEq, Int.reduceBNe, Int.reduceBEq, ne_eq, not_false_eq_true, pc, ls, bs, and_true, true_and, and_self, Nat.reduceAdd, Nat.le_refl, leafP, pd]
      refine CallT.mk (t := ⟨⟩) (fsign_n _ (zz.mono (by omega))) ?_
      have hge : decide ((y + -((x.floor : Rat) + 1)).num.sign ≥ 0) = decide ((x.floor : Rat) + 1 ≤ y) := by
        congr 1
        apply propext
        rw [show y + -((x.floor : Rat) + 1) = y - ((x.floor : Rat) + 1) by grind]
        exact ge_sign _ _
      simp (maxSteps := 10000000) only [↓sx, sx, ↓ty, ↓reduceIte, Nat.reduceEqDiff, Nat.reduceBeqDiff, Nat.reduceAdd, Nat.reduceLeDiff, Nat.reduceLT, Nat.reduceMul, Nat.reduceSub, Int.reduceEq, Int.reduceBNe, Int.reduceBEq, ne_eq, not_false_eq_true, pc, ls, bs, and_true, true_and, and_self, Nat.reduceAdd, Nat.le_refl, leafP, pd, hge]
      refine vcIf_dec (fun h2 => ?_) (fun h2 => ?_)
      · rw [if_pos h2]
      · rw [if_neg h2]
        obtain ⟨s1', s2', s3, s4, s5, s6, s7⟩ := simp_step h0 hxy h1 h2
        have f1 : (x.floor : Rat) < x := by have := Rat.floor_le x; grind
        have f0 : 0 ≤ x.floor := Rat.le_floor_iff.2 (by exact_mod_cast (show (0 : Rat) ≤ x by grind))
        have o2 := fopp_n (x.floor : Rat) (sf.mono (by omega))
        rw [fr_int] at o2
        have p3 := fplus_n y (-(x.floor : Rat)) (zy.mono (by omega)) (sf.neg.mono (by omega))
        have p4 := fplus_n x (-(x.floor : Rat)) (zx.mono (by omega)) (sf.neg.mono (by omega))
        rw [show y + -(x.floor : Rat) = y - x.floor by grind] at p3
        rw [show x + -(x.floor : Rat) = x - x.floor by grind] at p4
        have z3 := (zy.mono (m := 4002) (by omega)).sub sf
        have z4 := (zx.mono (m := 4002) (by omega)).sub sf
        have v3 := finv_n (y - x.floor) (z3.mono (by omega)) (by grind)
        have v4 := finv_n (x - x.floor) (z4.mono (by omega)) (by grind)
        have nn : 0 ≤ x.floor * y.den := Int.mul_nonneg f0 (by omega)
        have nx : 0 ≤ x.floor * x.den := Int.mul_nonneg f0 (by omega)
        have zy' : Sz 4000 (y - x.floor)⁻¹ := ⟨Nat.le_trans (Lw_mono s4) zy.2, Nat.le_trans (Lw_mono (show (y - x.floor)⁻¹.den ≤ y.num.natAbs by omega)) zy.1⟩
        have zx' : Sz 4000 (x - x.floor)⁻¹ := ⟨Nat.le_trans (Lw_mono s5) zx.2, Nat.le_trans (Lw_mono (show (x - x.floor)⁻¹.den ≤ x.num.natAbs by omega)) zx.1⟩
        have rec' := ih _ _ (by omega) s1' s2' zy' zx'
        obtain ⟨r0, r1, r2, r3, r4⟩ := simp_ok k _ _ (by omega) s1' s2'
        have zr : Sz 4000 (simpQ k (y - x.floor)⁻¹ (x - x.floor)⁻¹) := sz_of zy' r1 r3
        generalize simpQ k (y - x.floor)⁻¹ (x - x.floor)⁻¹ = r at *
        have v5 := finv_n r (zr.mono (by omega)) (by grind)
        have zri := zr.inv (by omega)
        have p5 := fplus_n (x.floor : Rat) r⁻¹ (sf.mono (by omega)) (zri.mono (by omega))
        rw [fr_int] at p5
        refine CallT.mk (t := ⟨⟩) o2 ?_
        simp (maxSteps := 10000000) only [↓sx, sx, ↓ty, ↓reduceIte, Nat.reduceEqDiff, Nat.reduceBeqDiff, Nat.reduceAdd, Nat.reduceLeDiff, Nat.reduceLT, Nat.reduceMul, Nat.reduceSub, Int.reduceEq, Int.reduceBNe, Int.reduceBEq, ne_eq, not_false_eq_true, pc, ls, bs, and_true, true_and, and_self, Nat.reduceAdd, Nat.le_refl, leafP, pd]
        refine CallT.mk (t := ⟨⟩) p3 ?_
        simp (maxSteps := 10000000) only [↓sx, sx, ↓ty, ↓reduceIte, Nat.reduceEqDiff, Nat.reduceBeqDiff, Nat.reduceAdd, Nat.reduceLeDiff, Nat.reduceLT, Nat.reduceMul, Nat.reduceSub, Int.reduceEq, Int.reduceBNe, Int.reduceBEq, ne_eq, not_false_eq_true, pc, ls, bs, and_true, true_and, and_self, Nat.reduceAdd, Nat.le_refl, leafP, pd]
        refine CallT.mk (t := ⟨⟩) v3 ?_
        simp (maxSteps := 10000000) only [↓sx, sx, ↓ty, ↓reduceIte, Nat.reduceEqDiff, Nat.reduceBeqDiff, Nat.reduceAdd, Nat.reduceLeDiff, Nat.reduceLT, Nat.reduceMul, Nat.reduceSub, Int.reduceEq, Int.reduceBNe, Int.reduceBEq, ne_eq, not_false_eq_true, pc, ls, bs, and_true, true_and, and_self, Nat.reduceAdd, Nat.le_refl, leafP, pd]
        refine CallT.mk (t := ⟨⟩) p4 ?_
        simp (maxSteps := 10000000) only [↓sx, sx, ↓ty, ↓reduceIte, Nat.reduceEqDiff, Nat.reduceBeqDiff, Nat.reduceAdd, Nat.reduceLeDiff, Nat.reduceLT, Nat.reduceMul, Nat.reduceSub, Int.reduceEq, Int.reduceBNe, Int.reduceBEq, ne_eq, not_false_eq_true, pc, ls, bs, and_true, true_and, and_self, Nat.reduceAdd, Nat.le_refl, leafP, pd]
        refine CallT.mk (t := ⟨⟩) v4 ?_
        simp (maxSteps := 10000000) only [↓sx, sx, ↓ty, ↓reduceIte, Nat.reduceEqDiff, Nat.reduceBeqDiff, Nat.reduceAdd, Nat.reduceLeDiff, Nat.reduceLT, Nat.reduceMul, Nat.reduceSub, Int.reduceEq, Int.reduceBNe, Int.reduceBEq, ne_eq, not_false_eq_true, pc, ls, bs, and_true, true_and, and_self, Nat.reduceAdd, Nat.le_refl, leafP, pd]
        refine CallT.mk (t := ⟨⟩) rec' ?_
        simp (maxSteps := 10000000) only [↓sx, sx, ↓ty, ↓reduceIte, Nat.reduceEqDiff, Nat.reduceBeqDiff, Nat.reduceAdd, Nat.reduceLeDiff, Nat.reduceLT, Nat.reduceMul, Nat.reduceSub, Int.reduceEq, Int.reduceBNe, Int.reduceBEq, ne_eq, not_false_eq_true, pc, ls, bs, and_true, true_and, and_self, Nat.reduceAdd, Nat.le_refl, leafP, pd]
        refine CallT.mk (t := ⟨⟩) v5 ?_
        simp (maxSteps := 10000000) only [↓sx, sx, ↓ty, ↓reduceIte, Nat.reduceEqDiff, Nat.reduceBeqDiff, Nat.reduceAdd, Nat.reduceLeDiff, Nat.reduceLT, Nat.reduceMul, Nat.reduceSub, Int.reduceEq, Int.reduceBNe, Int.reduceBEq, ne_eq, not_false_eq_true, pc, ls, bs, and_true, true_and, and_self, Nat.reduceAdd, Nat.le_refl, leafP, pd]
        refine CallT.mk (t := ⟨⟩) p5 ?_
        simp (maxSteps := 10000000) only [↓sx, sx, ↓ty, ↓reduceIte, Nat.reduceEqDiff, Nat.reduceBeqDiff, Nat.reduceAdd, Nat.reduceLeDiff, Nat.reduceLT, Nat.reduceMul, Nat.reduceSub, Int.reduceEq, Int.reduceBNe, Int.reduceBEq, ne_eq, not_false_eq_true, pc, ls, bs, and_true, true_and, and_self, Nat.reduceAdd, Nat.le_refl, leafP, pd]
set_option maxRecDepth 100000 in
set_option maxHeartbeats 8000000 in
theorem rsimplest_n (a b : List UInt8) (ha : a.length < 30000) (hb : b.length < 30000) : Meets Tryz.prog Gd 35 [strP a, strP b] (rsimplP a b) := by
  refine meets_of_vc (Y := {}) (N := 46) (rs := [.tmp 4, .tmp 5]) mix tk gd Tryz.func35 rfl (by kernel_rfl) rfl rfl (by simp) (by kernel_rfl) ?_
  unfold rsimplP
  cases h : isRat a && isRat b with
  | false =>
    simp (maxSteps := 10000000) only [↓sx, sx, ↓ty, ↓reduceIte, Nat.reduceEqDiff, Nat.reduceBeqDiff, Nat.reduceAdd, Nat.reduceLeDiff, Nat.reduceLT, Nat.reduceMul, Nat.reduceSub, Int.reduceEq, Int.reduceBNe, Int.reduceBEq, ne_eq, not_false_eq_true, pc, ls, bs, and_true, true_and, and_self, Nat.reduceAdd, Nat.le_refl, leafP]
    refine CallT.mk (t := ⟨⟩) (both_no a b (by omega) (by omega) h) ?_
    simp (maxSteps := 10000000) only [↓sx, sx, ↓ty, ↓reduceIte, Nat.reduceEqDiff, Nat.reduceBeqDiff, Nat.reduceAdd, Nat.reduceLeDiff, Nat.reduceLT, Nat.reduceMul, Nat.reduceSub, Int.reduceEq, Int.reduceBNe, Int.reduceBEq, ne_eq, not_false_eq_true, pc, ls, bs, and_true, true_and, and_self, Nat.reduceAdd, Nat.le_refl, leafP, fr0]
  | true =>
    obtain ⟨h1, h2⟩ := and_split h
    have zx : Sz 4000 (ratOf a) := Sz.of h1 (k := 3999) (by omega)
    have zy : Sz 4000 (ratOf b) := Sz.of h2 (k := 3999) (by omega)
    have bo := both_ok a b (by omega) (by omega) h1 h2
    simp only [if_true]
    unfold simplV
    generalize ratOf a = x at *
    generalize ratOf b = y at *
    have o1 := fopp_n x (zx.mono (by omega))
    have o2 := fopp_n y (zy.mono (by omega))
    have p1 := fplus_n y (-x) (zy.mono (by omega)) (zx.neg.mono (by omega))
    have zz := zy.add zx.neg
    have sg := fsign_n (y + -x) (zz.mono (by omega))
    have sx' := fsign_n x (zx.mono (by omega))
    have sy := fsign_n y (zy.mono (by omega))
    have hlt : decide ((y + -x).num.sign < 0) = decide (y < x) := by
      congr 1; apply propext
      rw [show y + -x = y - x by grind]; exact lt_sign _ _
    have hpx : decide (x.num.sign > 0) = decide (0 < x) := by
      congr 1; apply propext
      rcases sign_cases0 x with ⟨e, h⟩ | ⟨e, h⟩ | ⟨e, h⟩ <;> rw [e] <;> constructor <;> intro h <;> first | omega | grind
    have hny : decide (y.num.sign < 0) = decide (y < 0) := by
      congr 1; apply propext
      rcases sign_cases0 y with ⟨e, h⟩ | ⟨e, h⟩ | ⟨e, h⟩ <;> rw [e] <;> constructor <;> intro h <;> first | omega | grind
    simp (maxSteps := 10000000) only [↓sx, sx, ↓ty, ↓reduceIte, Nat.reduceEqDiff, Nat.reduceBeqDiff, Nat.reduceAdd, Nat.reduceLeDiff, Nat.reduceLT, Nat.reduceMul, Nat.reduceSub, Int.reduceEq, Int.reduceBNe, Int.reduceBEq, ne_eq, not_false_eq_true, pc, ls, bs, and_true, true_and, and_self, Nat.reduceAdd, Nat.le_refl, leafP, pd]
    refine CallT.mk (t := ⟨⟩) bo ?_
    simp (maxSteps := 10000000) only [↓sx, sx, ↓ty, ↓reduceIte, Nat.reduceEqDiff, Nat.reduceBeqDiff, Nat.reduceAdd, Nat.reduceLeDiff, Nat.reduceLT, Nat.reduceMul, Nat.reduceSub, Int.reduceEq, Int.reduceBNe, Int.reduceBEq, ne_eq, not_false_eq_true, pc, ls, bs, and_true, true_and, and_self, Nat.reduceAdd, Nat.le_refl, leafP, pd]
    refine CallT.mk (t := ⟨⟩) o1 ?_
    simp (maxSteps := 10000000) only [↓sx, sx, ↓ty, ↓reduceIte, Nat.reduceEqDiff, Nat.reduceBeqDiff, Nat.reduceAdd, Nat.reduceLeDiff, Nat.reduceLT, Nat.reduceMul, Nat.reduceSub, Int.reduceEq, Int.reduceBNe, Int.reduceBEq, ne_eq, not_false_eq_true, pc, ls, bs, and_true, true_and, and_self, Nat.reduceAdd, Nat.le_refl, leafP, pd]
    refine CallT.mk (t := ⟨⟩) p1 ?_
    simp (maxSteps := 10000000) only [↓sx, sx, ↓ty, ↓reduceIte, Nat.reduceEqDiff, Nat.reduceBeqDiff, Nat.reduceAdd, Nat.reduceLeDiff, Nat.reduceLT, Nat.reduceMul, Nat.reduceSub, Int.reduceEq, Int.reduceBNe, Int.reduceBEq, ne_eq, not_false_eq_true, pc, ls, bs, and_true, true_and, and_self, Nat.reduceAdd, Nat.le_refl, leafP, pd]
    refine CallT.mk (t := ⟨⟩) sg ?_
    simp (maxSteps := 10000000) only [↓sx, sx, ↓ty, ↓reduceIte, Nat.reduceEqDiff, Nat.reduceBeqDiff, Nat.reduceAdd, Nat.reduceLeDiff, Nat.reduceLT, Nat.reduceMul, Nat.reduceSub, Int.reduceEq, Int.reduceBNe, Int.reduceBEq, ne_eq, not_false_eq_true, pc, ls, bs, and_true, true_and, and_self, Nat.reduceAdd, Nat.le_refl, leafP, pd, hlt]
    refine vcIf_dec (fun c1 => ?_) (fun c1 => ?_)
    · rw [if_pos c1]
    · rw [if_neg c1]
      refine CallT.mk (t := ⟨⟩) sx' ?_
      simp (maxSteps := 10000000) only [↓sx, sx, ↓ty, ↓reduceIte, Nat.reduceEqDiff, Nat.reduceBeqDiff, Nat.reduceAdd, Nat.reduceLeDiff, Nat.reduceLT, Nat.reduceMul, Nat.reduceSub, Int.reduceEq, Int.reduceBNe, Int.reduceBEq, ne_eq, not_false_eq_true, pc, ls, bs, and_true, true_and, and_self, Nat.reduceAdd, Nat.le_refl, leafP, pd, hpx]
      refine vcIf_dec (fun c2 => ?_) (fun c2 => ?_)
      · rw [if_pos c2]
        have r1 := fsimplest_n (x.den + y.den) x y (Nat.le_refl _) c2 (by grind) zx zy
        obtain ⟨_, e1, _, e3, _⟩ := simp_ok (x.den + y.den) x y (Nat.le_refl _) c2 (by grind)
        have zr := sz_of zx e1 e3
        refine CallT.mk (t := ⟨⟩) r1 ?_
        simp (maxSteps := 10000000) only [↓sx, sx, ↓ty, ↓reduceIte, Nat.reduceEqDiff, Nat.reduceBeqDiff, Nat.reduceAdd, Nat.reduceLeDiff, Nat.reduceLT, Nat.reduceMul, Nat.reduceSub, Int.reduceEq, Int.reduceBNe, Int.reduceBEq, ne_eq, not_false_eq_true, pc, ls, bs, and_true, true_and, and_self, Nat.reduceAdd, Nat.le_refl, leafP, pd]
        refine CallT.mk (t := ⟨⟩) (ftext_n _ (zr.mono (by omega))) ?_
        simp (maxSteps := 10000000) only [↓sx, sx, ↓ty, ↓reduceIte, Nat.reduceEqDiff, Nat.reduceBeqDiff, Nat.reduceAdd, Nat.reduceLeDiff, Nat.reduceLT, Nat.reduceMul, Nat.reduceSub, Int.reduceEq, Int.reduceBNe, Int.reduceBEq, ne_eq, not_false_eq_true, pc, ls, bs, and_true, true_and, and_self, Nat.reduceAdd, Nat.le_refl, leafP, pd]
      · rw [if_neg c2]
        refine CallT.mk (t := ⟨⟩) sy ?_
        simp (maxSteps := 10000000) only [↓sx, sx, ↓ty, ↓reduceIte, Nat.reduceEqDiff, Nat.reduceBeqDiff, Nat.reduceAdd, Nat.reduceLeDiff, Nat.reduceLT, Nat.reduceMul, Nat.reduceSub, Int.reduceEq, Int.reduceBNe, Int.reduceBEq, ne_eq, not_false_eq_true, pc, ls, bs, and_true, true_and, and_self, Nat.reduceAdd, Nat.le_refl, leafP, pd, hny]
        refine vcIf_dec (fun c3 => ?_) (fun c3 => ?_)
        · rw [if_pos c3]
          have r1 := fsimplest_n ((-y).den + (-x).den) (-y) (-x) (Nat.le_refl _) (by grind) (by grind) zy.neg zx.neg
          obtain ⟨_, e1, _, e3, _⟩ := simp_ok ((-y).den + (-x).den) (-y) (-x) (Nat.le_refl _) (by grind) (by grind)
          have zr := sz_of zy.neg e1 e3
          generalize simpQ ((-y).den + (-x).den) (-y) (-x) = r at *
          refine CallT.mk (t := ⟨⟩) o2 ?_
          simp (maxSteps := 10000000) only [↓sx, sx, ↓ty, ↓reduceIte, Nat.reduceEqDiff, Nat.reduceBeqDiff, Nat.reduceAdd, Nat.reduceLeDiff, Nat.reduceLT, Nat.reduceMul, Nat.reduceSub, Int.reduceEq, Int.reduceBNe, Int.reduceBEq, ne_eq, not_false_eq_true, pc, ls, bs, and_true, true_and, and_self, Nat.reduceAdd, Nat.le_refl, leafP, pd]
          refine CallT.mk (t := ⟨⟩) o1 ?_
          simp (maxSteps := 10000000) only [↓sx, sx, ↓ty, ↓reduceIte, Nat.reduceEqDiff, Nat.reduceBeqDiff, Nat.reduceAdd, Nat.reduceLeDiff, Nat.reduceLT, Nat.reduceMul, Nat.reduceSub, Int.reduceEq, Int.reduceBNe, Int.reduceBEq, ne_eq, not_false_eq_true, pc, ls, bs, and_true, true_and, and_self, Nat.reduceAdd, Nat.le_refl, leafP, pd]
          refine CallT.mk (t := ⟨⟩) r1 ?_
          simp (maxSteps := 10000000) only [↓sx, sx, ↓ty, ↓reduceIte, Nat.reduceEqDiff, Nat.reduceBeqDiff, Nat.reduceAdd, Nat.reduceLeDiff, Nat.reduceLT, Nat.reduceMul, Nat.reduceSub, Int.reduceEq, Int.reduceBNe, Int.reduceBEq, ne_eq, not_false_eq_true, pc, ls, bs, and_true, true_and, and_self, Nat.reduceAdd, Nat.le_refl, leafP, pd]
          refine CallT.mk (t := ⟨⟩) (fopp_n r (zr.mono (by omega))) ?_
          simp (maxSteps := 10000000) only [↓sx, sx, ↓ty, ↓reduceIte, Nat.reduceEqDiff, Nat.reduceBeqDiff, Nat.reduceAdd, Nat.reduceLeDiff, Nat.reduceLT, Nat.reduceMul, Nat.reduceSub, Int.reduceEq, Int.reduceBNe, Int.reduceBEq, ne_eq, not_false_eq_true, pc, ls, bs, and_true, true_and, and_self, Nat.reduceAdd, Nat.le_refl, leafP, pd]
          refine CallT.mk (t := ⟨⟩) (ftext_n (-r) (zr.neg.mono (by omega))) ?_
          simp (maxSteps := 10000000) only [↓sx, sx, ↓ty, ↓reduceIte, Nat.reduceEqDiff, Nat.reduceBeqDiff, Nat.reduceAdd, Nat.reduceLeDiff, Nat.reduceLT, Nat.reduceMul, Nat.reduceSub, Int.reduceEq, Int.reduceBNe, Int.reduceBEq, ne_eq, not_false_eq_true, pc, ls, bs, and_true, true_and, and_self, Nat.reduceAdd, Nat.le_refl, leafP, pd]
        · rw [if_neg c3, rT_0]
end Go.Proofs.YtfbmphbmidlijaaGreatDoor.S
namespace Gb
open Go Go.RowKit Go.Sx
def isZ (c : UInt8) : Bool := c == 48
theorem ten_ne (n : Nat) : 10 ^ n ≠ 0 := by have : 0 < 10 ^ n := Nat.pow_pos (by omega); omega
def parV (neg : Bool) (w p : List UInt8) : Rat := Rat.normalize (zmk neg (natOf (w ++ p))) (10 ^ p.length) (ten_ne _)
def rparseP (l : List UInt8) : PV := if isRat l then .tup [strP l, iP 0] else if digB (cutD (cutM l).1).1 && digB (cutD (cutM l).1).2.1 then .tup [rtP (parV (cutM l).2 (cutD (cutM l).1).1 (cutD (cutM l).1).2.1), iP 0] else .tup [strP [], iP 3]
theorem natOf_cons (c : UInt8) (r : List UInt8) : natOf (c :: r) = (c.toNat - 48) * 10 ^ r.length + natOf r := by
  rw [show c :: r = [c] ++ r from rfl, natOf_append]
  congr 2
  simp [natOf]
theorem dz_natOf : ∀ l : List UInt8, natOf (l.dropWhile isZ) = natOf l
  | [] => rfl
  | c :: r => by
    rw [List.dropWhile_cons]
    by_cases h : isZ c = true
    · rw [if_pos h, dz_natOf r, natOf_cons]
      have : c = 48 := eq_of_beq h
      subst this
      show natOf r = (48 - 48) * _ + _
      omega
    · rw [if_neg h]
theorem dz_isNat : ∀ l : List UInt8, (∀ c ∈ l, isD c = true) → l.dropWhile isZ ≠ [] → isNat (l.dropWhile isZ) = true
  | [], _, h => absurd rfl h
  | c :: r, hd, h => by
    rw [List.dropWhile_cons] at h ⊢
    by_cases hz : isZ c = true
    · rw [if_pos hz] at h ⊢
      exact dz_isNat r (fun x hx => hd x (List.mem_cons_of_mem _ hx)) h
    · rw [if_neg hz] at h ⊢
      rw [isNat_iff]
      refine ⟨by simp, hd, .inr ?_⟩
      intro e
      have : c = 48 := Option.some.inj e
      exact hz (by rw [this]; rfl)
theorem dz_dec {l : List UInt8} (hd : ∀ c ∈ l, isD c = true) (h : l.dropWhile isZ ≠ []) : l.dropWhile isZ = Lib.decDigits (natOf l) := by
  rw [← dz_natOf l, dec_natOf (dz_isNat l hd h)]
theorem dz_nil {l : List UInt8} (h : l.dropWhile isZ = []) : natOf l = 0 := by rw [← dz_natOf, h]; rfl
theorem dz_pos {l : List UInt8} (hd : ∀ c ∈ l, isD c = true) (h : l.dropWhile isZ ≠ []) : natOf l ≠ 0 := by
  intro e
  have h1 := dz_dec hd h
  rw [e, dec_0] at h1
  cases l with
  | nil => exact h rfl
  | cons c r =>
    have h2 : ∀ m : List UInt8, (m.dropWhile isZ).head? ≠ some 48 := by
      intro m
      induction m with
      | nil => simp
      | cons a b ih =>
        rw [List.dropWhile_cons]
        by_cases hz : isZ a = true
        · rw [if_pos hz]; exact ih
        · rw [if_neg hz]
          intro e
          have : a = 48 := Option.some.inj e
          exact hz (by rw [this]; rfl)
    exact h2 _ (by rw [h1]; rfl)
theorem digB_all {l : List UInt8} (h : digB l = true) : ∀ c ∈ l, isD c = true := by
  unfold digB at h
  rw [Bool.and_eq_true] at h
  exact List.all_eq_true.1 h.2
theorem cutD_len : ∀ l : List UInt8, (cutD l).1.length + (cutD l).2.1.length ≤ l.length
  | [] => Nat.le_refl _
  | c :: r => by
    rw [cutD_cons]
    have := cutD_len r
    split
    · simp
    · simp; omega
theorem cutM_len (l : List UInt8) : (cutM l).1.length ≤ l.length := by
  cases l with
  | nil => exact Nat.le_refl _
  | cons c r => rw [cutM_cons]; split <;> simp
theorem parV_zero {neg : Bool} {w p : List UInt8} (h : natOf (w ++ p) = 0) : parV neg w p = 0 := by
  unfold parV
  have : zmk neg (natOf (w ++ p)) = 0 := by rw [h]; cases neg <;> rfl
  simp only [this]
  exact Rat.normalize_zero _
end Gb
namespace Go.Proofs.YtfbmphbmidlijaaGreatDoor.S
open Go Go.Sx Go.RowKit Gb Go.Shelf
theorem index46_n (l : List UInt8) : Meets Tryz.prog Gd 146 [strP l, strP [46]] (iP (Lib.indexByte l 46)) := by
  refine meets_val [.string ⟨l.toArray⟩, .string ⟨#[46]⟩] (.int .i64 (Lib.indexByte l 46)) (enters_of Tryz.func146 (by kernel_rfl) rfl) ?_ ?_
  · intro B w
    simp only [iP, RepP]
  · intro w _
    refine (Tryz.stringslite_Index_one ⟨l.toArray⟩ 46 w).mono ?_
    rintro e w' ⟨rfl, rfl⟩
    exact ⟨rfl, Below.refl _ _⟩
set_option maxRecDepth 100000 in
theorem cuts46_n (l : List UInt8) (hl : l.length < 10000000) : Meets Tryz.prog Gd 97 [strP l, strP [46]] (.tup [strP (cutD l).1, strP (cutD l).2.1, .val (.bool (cutD l).2.2)]) := by
  refine meets_of_vc (Y := {}) (N := 23) (rs := [.tmp 4, .tmp 5, .tmp 6]) mix tk gd Tryz.func97 rfl (by kernel_rfl) rfl rfl (by simp) (by kernel_rfl) ?_
  simp (maxSteps := 10000000) only [↓sx, sx, ↓ty, ↓reduceIte, Nat.reduceEqDiff, Nat.reduceBeqDiff, Nat.reduceAdd, Nat.reduceLeDiff, Nat.reduceLT, Nat.reduceMul, Nat.reduceSub, Int.reduceEq, Int.reduceBNe, Int.reduceBEq, ne_eq, not_false_eq_true, pc, ls, bs, and_true, true_and, and_self, Nat.reduceAdd, Nat.le_refl, leafP]
  refine CallT.mk (index46_n l) ?_
  simp (maxSteps := 10000000) only [↓sx, sx, ↓ty, ↓reduceIte, Nat.reduceEqDiff, Nat.reduceBeqDiff, Nat.reduceAdd, Nat.reduceLeDiff, Nat.reduceLT, Nat.reduceMul, Nat.reduceSub, Int.reduceEq, Int.reduceBNe, Int.reduceBEq, ne_eq, not_false_eq_true, pc, ls, bs, and_true, true_and, and_self, Nat.reduceAdd, Nat.le_refl, leafP]
  rcases idx_cutD l with ⟨h1, h2⟩ | ⟨n, h0, h1, h2⟩
  · rw [h1, h2]
    refine vcIf_dec (fun h => by omega) (fun h => ?_)
    rfl
  · rw [h1, h2]
    refine vcIf_dec (fun h => ?_) (fun h => by omega)
    rw [i64_id (x := (n : Int) + ((1 : Nat) : Int)) (by omega) (by omega)]
    refine ⟨by omega, by omega, ?_⟩
    have e1 : ((n : Int) + ((1 : Nat) : Int)).toNat = n + 1 := by omega
    rw [e1]
    simp [List.take_of_length_le]
set_option maxRecDepth 100000 in
theorem cut46_n (l : List UInt8) (hl : l.length < 10000000) : Meets Tryz.prog Gd 43 [strP l, strP [46]] (.tup [strP (cutD l).1, strP (cutD l).2.1, .val (.bool (cutD l).2.2)]) := by
  refine meets_of_vc (Y := {}) (N := 13) (rs := [.tmp 4, .tmp 5, .tmp 6]) mix tk gd Tryz.func43 rfl (by kernel_rfl) rfl rfl (by simp) (by kernel_rfl) ?_
  simp (maxSteps := 10000000) only [↓sx, sx, ↓ty, ↓reduceIte, Nat.reduceEqDiff, Nat.reduceBeqDiff, Nat.reduceAdd, Nat.reduceLeDiff, Nat.reduceLT, Nat.reduceMul, Nat.reduceSub, Int.reduceEq, Int.reduceBNe, Int.reduceBEq, ne_eq, not_false_eq_true, pc, ls, bs, and_true, true_and, and_self, Nat.reduceAdd, Nat.le_refl, leafP]
  refine CallT.mk (cuts46_n l hl) ?_
  simp (maxSteps := 10000000) only [↓sx, sx, ↓ty, ↓reduceIte, Nat.reduceEqDiff, Nat.reduceBeqDiff, Nat.reduceAdd, Nat.reduceLeDiff, Nat.reduceLT, Nat.reduceMul, Nat.reduceSub, Int.reduceEq, Int.reduceBNe, Int.reduceBEq, ne_eq, not_false_eq_true, pc, ls, bs, and_true, true_and, and_self, Nat.reduceAdd, Nat.le_refl, leafP]
set_option maxRecDepth 100000 in
set_option maxHeartbeats 4000000 in
theorem trimb_n (l : List UInt8) (hl : l.length < 10000000) : Meets Tryz.prog Gd 133 [strP l, .val (.int .u8 48)] (strP (l.dropWhile isZ)) := by
  refine meets_of_vc (Y := {}) (N := 17) (rs := [.tmp 4]) mix tk gd Tryz.func133 rfl (by kernel_rfl) rfl rfl (by simp) (by kernel_rfl) ?_
  simp (maxSteps := 10000000) only [↓sx, sx, ↓ty, ↓reduceIte, Nat.reduceEqDiff, Nat.reduceBeqDiff, Nat.reduceAdd, Nat.reduceLeDiff, Nat.reduceLT, Nat.reduceMul, Nat.reduceSub, Int.reduceEq, Int.reduceBNe, Int.reduceBEq, ne_eq, not_false_eq_true, pc, ls, bs, and_true, true_and, and_self, Nat.reduceAdd, Nat.le_refl, leafP]
  refine loopK_of (fun s : List UInt8 => [(0, .p (strP s)), (1, .p (.val (.int .u8 48))), (4, .p (strP []))]) (fun _ => []) (fun _ => []) (fun s => s.length ≤ l.length ∧ s.dropWhile isZ = l.dropWhile isZ) (fun s => s.length) l ⟨Nat.le_refl _, rfl⟩ ?_ ?_
  · simp (maxSteps := 10000000) only [isE_nil, is_cons, bo_p, bo_box, bo_orow, bo_rowp, any_cons', all_cons', all_nil', Bool.true_or, Bool.or_true, ↓sx, sx, ↓reduceIte, Nat.reduceEqDiff, Nat.reduceBeqDiff]
    try trivial
  · rintro s ⟨hs, hv⟩
    cases s with
    | nil =>
      have d0 : decide (((0 : Nat) : Int) > 0) = false := by decide
      simp (maxSteps := 10000000) only [↓sx, sx, ↓ty, ↓reduceIte, Nat.reduceEqDiff, Nat.reduceBeqDiff, Nat.reduceAdd, Nat.reduceLeDiff, Nat.reduceLT, Nat.reduceMul, Nat.reduceSub, Int.reduceEq, Int.reduceBNe, Int.reduceBEq, ne_eq, not_false_eq_true, pc, ls, bs, and_true, true_and, and_self, Nat.reduceAdd, Nat.le_refl, leafP, List.length_nil, d0]
      rw [← hv]
      rfl
    | cons c r =>
      have d0 : decide (((r.length + 1 : Nat) : Int) > 0) = true := decide_eq_true (by omega)
      rw [List.length_cons] at hs
      have hz : (((c.toNat : Nat) : Int) == 48) = isZ c := by
        unfold isZ
        by_cases h : c = 48
        · subst h; rfl
        · have h1 : (c == 48) = false := by simpa using h
          rw [h1, beq_eq_false_iff_ne]
          intro e
          exact h (UInt8.toNat_inj.1 (by show c.toNat = 48; omega))
      rw [List.dropWhile_cons] at hv
      simp (maxSteps := 10000000) only [↓sx, sx, ↓ty, ↓reduceIte, Nat.reduceEqDiff, Nat.reduceBeqDiff, Nat.reduceAdd, Nat.reduceLeDiff, Nat.reduceLT, Nat.reduceMul, Nat.reduceSub, Int.reduceEq, Int.reduceBNe, Int.reduceBEq, ne_eq, not_false_eq_true, pc, ls, bs, and_true, true_and, and_self, Nat.reduceAdd, Nat.le_refl, leafP, List.length_cons, d0, getD_get, Option.getD_some, hz]
      refine ⟨by omega, ?_⟩
      cases hc : isZ c with
      | true =>
        rw [hc, if_pos rfl] at hv
        simp (maxSteps := 10000000) only [↓sx, sx, ↓ty, ↓reduceIte, Nat.reduceEqDiff, Nat.reduceBeqDiff, Nat.reduceAdd, Nat.reduceLeDiff, Nat.reduceLT, Nat.reduceMul, Nat.reduceSub, Int.reduceEq, Int.reduceBNe, Int.reduceBEq, ne_eq, not_false_eq_true, pc, ls, bs, and_true, true_and, and_self, Nat.reduceAdd, Nat.le_refl, leafP]
        refine ⟨by omega, NextK.mk r (by simp) ⟨by omega, hv⟩ ?_⟩
        simp (maxSteps := 10000000) only [isE_nil, is_cons, bo_p, bo_box, bo_orow, bo_rowp, any_cons', all_cons', all_nil', Bool.true_or, Bool.or_true, ↓sx, sx, ↓reduceIte, Nat.reduceEqDiff, Nat.reduceBeqDiff]
        have e1 : List.take (r.length + 1 - Int.toNat 1) (List.drop (Int.toNat 1) (c :: r)) = r := by
          show List.take (r.length + 1 - 1) (List.drop 1 (c :: r)) = r
          rw [List.drop_one, List.tail_cons, List.take_of_length_le (by omega)]
        rw [e1]
        exact ⟨rfl, rfl⟩
      | false =>
        rw [hc, if_neg (by decide)] at hv
        simp (maxSteps := 10000000) only [↓sx, sx, ↓ty, ↓reduceIte, Nat.reduceEqDiff, Nat.reduceBeqDiff, Nat.reduceAdd, Nat.reduceLeDiff, Nat.reduceLT, Nat.reduceMul, Nat.reduceSub, Int.reduceEq, Int.reduceBNe, Int.reduceBEq, ne_eq, not_false_eq_true, pc, ls, bs, and_true, true_and, and_self, Nat.reduceAdd, Nat.le_refl, leafP]
        rw [← hv]
set_option maxRecDepth 100000 in
set_option maxHeartbeats 4000000 in
theorem triml0_n (l : List UInt8) (hl : l.length < 10000000) : Meets Tryz.prog Gd 83 [strP l, strP [48]] (strP (l.dropWhile isZ)) := by
  refine meets_of_vc (Y := {}) (N := 37) (rs := [.tmp 4]) mix tk gd Tryz.func83 rfl (by kernel_rfl) rfl rfl (by simp) (by kernel_rfl) ?_
  have d1 : decide ((((48 : UInt8).toNat : Nat) : Int) < 128) = true := by decide
  have d2 : (((48 : UInt8).toNat : Nat) : Int) = 48 := rfl
  have d3 : (((1 : Nat) : Int) == 1) = true := by decide
  cases hl0 : (l == []) with
  | true =>
    have : l = [] := eq_of_beq hl0
    subst this
    simp (maxSteps := 10000000) only [↓sx, sx, ↓ty, ↓reduceIte, Nat.reduceEqDiff, Nat.reduceBeqDiff, Nat.reduceAdd, Nat.reduceLeDiff, Nat.reduceLT, Nat.reduceMul, Nat.reduceSub, Int.reduceEq, Int.reduceBNe, Int.reduceBEq, ne_eq, not_false_eq_true, pc, ls, bs, and_true, true_and, and_self, Nat.reduceAdd, Nat.le_refl, leafP, ba_beq, hl0]
    rfl
  | false =>
    have k0 : (([48] : List UInt8) == []) = false := rfl
    simp (maxSteps := 10000000) only [↓sx, sx, ↓ty, ↓reduceIte, Nat.reduceEqDiff, Nat.reduceBeqDiff, Nat.reduceAdd, Nat.reduceLeDiff, Nat.reduceLT, Nat.reduceMul, Nat.reduceSub, Int.reduceEq, Int.reduceBNe, Int.reduceBEq, ne_eq, not_false_eq_true, pc, ls, bs, and_true, true_and, and_self, Nat.reduceAdd, Nat.le_refl, leafP, ba_beq, hl0, k0, Option.getD_some, d1, d2, d3]
    refine ⟨by omega, by omega, ?_⟩
    refine CallT.mk (t := ⟨⟩) (trimb_n l hl) ?_
    simp (maxSteps := 10000000) only [↓sx, sx, ↓ty, ↓reduceIte, Nat.reduceEqDiff, Nat.reduceBeqDiff, Nat.reduceAdd, Nat.reduceLeDiff, Nat.reduceLT, Nat.reduceMul, Nat.reduceSub, Int.reduceEq, Int.reduceBNe, Int.reduceBEq, ne_eq, not_false_eq_true, pc, ls, bs, and_true, true_and, and_self, Nat.reduceAdd, Nat.le_refl, leafP]
set_option maxRecDepth 100000 in
set_option maxHeartbeats 8000000 in
theorem rparse_n (l : List UInt8) (hl : l.length < 30000) : Meets Tryz.prog Gd 33 [strP l] (rparseP l) := by
  refine meets_of_vc (Y := {}) (N := 49) (rs := [.tmp 2, .tmp 3]) mix tk gd Tryz.func33 rfl (by kernel_rfl) rfl rfl (by simp) (by kernel_rfl) ?_
  unfold rparseP
  simp (maxSteps := 10000000) only [↓sx, sx, ↓ty, ↓reduceIte, Nat.reduceEqDiff, Nat.reduceBeqDiff, Nat.reduceAdd, Nat.reduceLeDiff, Nat.reduceLT, Nat.reduceMul, Nat.reduceSub, Int.reduceEq, Int.reduceBNe, Int.reduceBEq, ne_eq, not_false_eq_true, pc, ls, bs, and_true, true_and, and_self, Nat.reduceAdd, Nat.le_refl, leafP]
  refine CallT.mk (t := ⟨⟩) (rvalid_n l (by omega)) ?_
  cases h : isRat l with
  | true =>
    simp (maxSteps := 10000000) only [↓sx, sx, ↓ty, ↓reduceIte, Nat.reduceEqDiff, Nat.reduceBeqDiff, Nat.reduceAdd, Nat.reduceLeDiff, Nat.reduceLT, Nat.reduceMul, Nat.reduceSub, Int.reduceEq, Int.reduceBNe, Int.reduceBEq, ne_eq, not_false_eq_true, pc, ls, bs, and_true, true_and, and_self, Nat.reduceAdd, Nat.le_refl, leafP]
    try rfl
  | false =>
    have h1 := cutM_len l
    have h2 := cutD_len (cutM l).1
    simp (maxSteps := 10000000) only [↓sx, sx, ↓ty, ↓reduceIte, Nat.reduceEqDiff, Nat.reduceBeqDiff, Nat.reduceAdd, Nat.reduceLeDiff, Nat.reduceLT, Nat.reduceMul, Nat.reduceSub, Int.reduceEq, Int.reduceBNe, Int.reduceBEq, ne_eq, not_false_eq_true, pc, ls, bs, and_true, true_and, and_self, Nat.reduceAdd, Nat.le_refl, leafP]
    refine CallT.mk (t := ⟨⟩) (cutm_n l) ?_
    generalize (cutM l).1 = a at *
    generalize (cutM l).2 = neg at *
    simp (maxSteps := 10000000) only [↓sx, sx, ↓ty, ↓reduceIte, Nat.reduceEqDiff, Nat.reduceBeqDiff, Nat.reduceAdd, Nat.reduceLeDiff, Nat.reduceLT, Nat.reduceMul, Nat.reduceSub, Int.reduceEq, Int.reduceBNe, Int.reduceBEq, ne_eq, not_false_eq_true, pc, ls, bs, and_true, true_and, and_self, Nat.reduceAdd, Nat.le_refl, leafP]
    refine CallT.mk (t := ⟨⟩) (cut46_n a (by omega)) ?_
    generalize (cutD a).1 = w at *
    generalize (cutD a).2.1 = p at *
    generalize (cutD a).2.2 = pt at *
    simp (maxSteps := 10000000) only [↓sx, sx, ↓ty, ↓reduceIte, Nat.reduceEqDiff, Nat.reduceBeqDiff, Nat.reduceAdd, Nat.reduceLeDiff, Nat.reduceLT, Nat.reduceMul, Nat.reduceSub, Int.reduceEq, Int.reduceBNe, Int.reduceBEq, ne_eq, not_false_eq_true, pc, ls, bs, and_true, true_and, and_self, Nat.reduceAdd, Nat.le_refl, leafP]
    refine CallT.mk (t := ⟨⟩) (digits_n w (by omega)) ?_
    cases hw : digB w with
    | false =>
      simp (maxSteps := 10000000) only [↓sx, sx, ↓ty, ↓reduceIte, Nat.reduceEqDiff, Nat.reduceBeqDiff, Nat.reduceAdd, Nat.reduceLeDiff, Nat.reduceLT, Nat.reduceMul, Nat.reduceSub, Int.reduceEq, Int.reduceBNe, Int.reduceBEq, ne_eq, not_false_eq_true, pc, ls, bs, and_true, true_and, and_self, Nat.reduceAdd, Nat.le_refl, leafP]
    | true =>
      simp (maxSteps := 10000000) only [↓sx, sx, ↓ty, ↓reduceIte, Nat.reduceEqDiff, Nat.reduceBeqDiff, Nat.reduceAdd, Nat.reduceLeDiff, Nat.reduceLT, Nat.reduceMul, Nat.reduceSub, Int.reduceEq, Int.reduceBNe, Int.reduceBEq, ne_eq, not_false_eq_true, pc, ls, bs, and_true, true_and, and_self, Nat.reduceAdd, Nat.le_refl, leafP]
      refine CallT.mk (t := ⟨⟩) (digits_n p (by omega)) ?_
      cases hp : digB p with
      | false =>
        simp (maxSteps := 10000000) only [↓sx, sx, ↓ty, ↓reduceIte, Nat.reduceEqDiff, Nat.reduceBeqDiff, Nat.reduceAdd, Nat.reduceLeDiff, Nat.reduceLT, Nat.reduceMul, Nat.reduceSub, Int.reduceEq, Int.reduceBNe, Int.reduceBEq, ne_eq, not_false_eq_true, pc, ls, bs, and_true, true_and, and_self, Nat.reduceAdd, Nat.le_refl, leafP]
      | true =>
        have hwp : ∀ c ∈ w ++ p, isD c = true := by
          intro c hc
          rcases List.mem_append.1 hc with hc | hc
          · exact digB_all hw c hc
          · exact digB_all hp c hc
        have hlen : (w ++ p).length = w.length + p.length := List.length_append
        have lwn := Lw_natOf hwp
        have lt := Lw_ten p.length
        simp (maxSteps := 10000000) only [↓sx, sx, ↓ty, ↓reduceIte, Nat.reduceEqDiff, Nat.reduceBeqDiff, Nat.reduceAdd, Nat.reduceLeDiff, Nat.reduceLT, Nat.reduceMul, Nat.reduceSub, Int.reduceEq, Int.reduceBNe, Int.reduceBEq, ne_eq, not_false_eq_true, pc, ls, bs, and_true, true_and, and_self, Nat.reduceAdd, Nat.le_refl, leafP]
        refine ⟨by omega, ?_⟩
        refine CallT.mk (t := ⟨⟩) (triml0_n (w ++ p) (by omega)) ?_
        by_cases hz : (w ++ p).dropWhile isZ = []
        · rw [parV_zero (dz_nil hz)]
          have k0 : (([] : List UInt8) == []) = true := rfl
          simp (maxSteps := 10000000) only [↓sx, sx, ↓ty, ↓reduceIte, Nat.reduceEqDiff, Nat.reduceBeqDiff, Nat.reduceAdd, Nat.reduceLeDiff, Nat.reduceLT, Nat.reduceMul, Nat.reduceSub, Int.reduceEq, Int.reduceBNe, Int.reduceBEq, ne_eq, not_false_eq_true, pc, ls, bs, and_true, true_and, and_self, Nat.reduceAdd, Nat.le_refl, leafP, hz, ba_beq, k0]
          rw [rT_0]
        · have n0 := dz_pos hwp hz
          have k0 : (Lib.decDigits (natOf (w ++ p)) == []) = false := by
            rw [beq_eq_false_iff_ne, ← dz_dec hwp hz]; exact hz
          have dl := dec_len (natOf (w ++ p))
          have zx : Sz 40000 (parV neg w p) := Sz.norm _ (by rw [zmk_abs]; omega) (by omega)
          have lo := lowestp_n (zmk neg (natOf (w ++ p))) (10 ^ p.length) (parV neg w p) (ten_ne _) (by rw [zmk_abs]; omega) (by omega) rfl
          have tx := ftext_n (parV neg w p) (zx.mono (by omega))
          have pw := power_t p.length (by omega)
          rw [dz_dec hwp hz]
          generalize parV neg w p = x at *
          generalize natOf (w ++ p) = n at *
          cases neg with
          | true =>
            have e1 : siP (zmk true n) = strP (45 :: Lib.decDigits n) := by
              unfold siP iD zmk
              rw [if_pos rfl, if_pos (by omega)]
              congr 3
              omega
            rw [e1] at lo
            simp (maxSteps := 10000000) only [↓sx, sx, ↓ty, ↓reduceIte, Nat.reduceEqDiff, Nat.reduceBeqDiff, Nat.reduceAdd, Nat.reduceLeDiff, Nat.reduceLT, Nat.reduceMul, Nat.reduceSub, Int.reduceEq, Int.reduceBNe, Int.reduceBEq, ne_eq, not_false_eq_true, pc, ls, bs, and_true, true_and, and_self, Nat.reduceAdd, Nat.le_refl, leafP, ba_beq, k0]
            refine ⟨by omega, ?_⟩
            refine CallT.mk (t := ⟨⟩) pw ?_
            simp (maxSteps := 10000000) only [↓sx, sx, ↓ty, ↓reduceIte, Nat.reduceEqDiff, Nat.reduceBeqDiff, Nat.reduceAdd, Nat.reduceLeDiff, Nat.reduceLT, Nat.reduceMul, Nat.reduceSub, Int.reduceEq, Int.reduceBNe, Int.reduceBEq, ne_eq, not_false_eq_true, pc, ls, bs, and_true, true_and, and_self, Nat.reduceAdd, Nat.le_refl, leafP]
            refine CallT.mk (t := ⟨⟩) lo ?_
            simp (maxSteps := 10000000) only [↓sx, sx, ↓ty, ↓reduceIte, Nat.reduceEqDiff, Nat.reduceBeqDiff, Nat.reduceAdd, Nat.reduceLeDiff, Nat.reduceLT, Nat.reduceMul, Nat.reduceSub, Int.reduceEq, Int.reduceBNe, Int.reduceBEq, ne_eq, not_false_eq_true, pc, ls, bs, and_true, true_and, and_self, Nat.reduceAdd, Nat.le_refl, leafP]
            refine CallT.mk (t := ⟨⟩) tx ?_
            simp (maxSteps := 10000000) only [↓sx, sx, ↓ty, ↓reduceIte, Nat.reduceEqDiff, Nat.reduceBeqDiff, Nat.reduceAdd, Nat.reduceLeDiff, Nat.reduceLT, Nat.reduceMul, Nat.reduceSub, Int.reduceEq, Int.reduceBNe, Int.reduceBEq, ne_eq, not_false_eq_true, pc, ls, bs, and_true, true_and, and_self, Nat.reduceAdd, Nat.le_refl, leafP]
          | false =>
            have e1 : siP (zmk false n) = strP (Lib.decDigits n) := by
              unfold siP iD zmk
              simp only [Bool.false_eq_true, if_false]
              rw [if_neg (by omega), Int.natAbs_natCast]
            rw [e1] at lo
            simp (maxSteps := 10000000) only [↓sx, sx, ↓ty, ↓reduceIte, Nat.reduceEqDiff, Nat.reduceBeqDiff, Nat.reduceAdd, Nat.reduceLeDiff, Nat.reduceLT, Nat.reduceMul, Nat.reduceSub, Int.reduceEq, Int.reduceBNe, Int.reduceBEq, ne_eq, not_false_eq_true, pc, ls, bs, and_true, true_and, and_self, Nat.reduceAdd, Nat.le_refl, leafP, ba_beq, k0]
            refine CallT.mk (t := ⟨⟩) pw ?_
            simp (maxSteps := 10000000) only [↓sx, sx, ↓ty, ↓reduceIte, Nat.reduceEqDiff, Nat.reduceBeqDiff, Nat.reduceAdd, Nat.reduceLeDiff, Nat.reduceLT, Nat.reduceMul, Nat.reduceSub, Int.reduceEq, Int.reduceBNe, Int.reduceBEq, ne_eq, not_false_eq_true, pc, ls, bs, and_true, true_and, and_self, Nat.reduceAdd, Nat.le_refl, leafP]
            refine CallT.mk (t := ⟨⟩) lo ?_
            simp (maxSteps := 10000000) only [↓sx, sx, ↓ty, ↓reduceIte, Nat.reduceEqDiff, Nat.reduceBeqDiff, Nat.reduceAdd, Nat.reduceLeDiff, Nat.reduceLT, Nat.reduceMul, Nat.reduceSub, Int.reduceEq, Int.reduceBNe, Int.reduceBEq, ne_eq, not_false_eq_true, pc, ls, bs, and_true, true_and, and_self, Nat.reduceAdd, Nat.le_refl, leafP]
            refine CallT.mk (t := ⟨⟩) tx ?_
            simp (maxSteps := 10000000) only [↓sx, sx, ↓ty, ↓reduceIte, Nat.reduceEqDiff, Nat.reduceBeqDiff, Nat.reduceAdd, Nat.reduceLeDiff, Nat.reduceLT, Nat.reduceMul, Nat.reduceSub, Int.reduceEq, Int.reduceBNe, Int.reduceBEq, ne_eq, not_false_eq_true, pc, ls, bs, and_true, true_and, and_self, Nat.reduceAdd, Nat.le_refl, leafP]
end Go.Proofs.YtfbmphbmidlijaaGreatDoor.S
namespace Go.Proofs.YtfbmphbmidlijaaGreatDoor.S
open Go Go.Sx Go.RowKit Gb Go.Shelf
end Go.Proofs.YtfbmphbmidlijaaGreatDoor.S
namespace Gb
open Go Go.RowKit Go.Sx
end Gb
namespace Go.Proofs.YtfbmphbmidlijaaGreatDoor.S
open Go Go.Sx Go.RowKit Gb Go.Shelf
end Go.Proofs.YtfbmphbmidlijaaGreatDoor.S
namespace Gb
open Go Go.RowKit Go.Sx
def texts (l : List (List UInt8)) : List PV := l.map strP
theorem take_snocA {α : Type} {l : List α} {i : Nat} {x : α} (hx : l[i]? = some x) : l.take (i + 1) = l.take i ++ [x] := by
  rw [List.take_add_one, hx]; rfl
end Gb
namespace Go.Proofs.YtfbmphbmidlijaaGreatDoor.S
open Go Go.Sx Go.RowKit Gb Go.Shelf
end Go.Proofs.YtfbmphbmidlijaaGreatDoor.S
namespace Gb
open Go Go.RowKit Go.Sx
theorem la : (∀ (α : Type) (a : α) (l m : List α), List.append (a :: l) m = a :: List.append l m) ∧ (∀ (α : Type) (m : List α), List.append [] m = m) := ⟨fun _ _ _ _ => rfl, fun _ _ => rfl⟩
end Gb
namespace Go.Proofs.YtfbmphbmidlijaaGreatDoor.S
open Go Go.Sx Go.RowKit Gb Go.Shelf
end Go.Proofs.YtfbmphbmidlijaaGreatDoor.S
namespace Gb
open Go Go.RowKit Go.Sx
end Gb
namespace Go.Proofs.YtfbmphbmidlijaaGreatDoor.S
open Go Go.Sx Go.RowKit Gb
variable {G : World → Prop} (hG : ∀ w w' : World, G w → Below w.heap.size w w' → G w')
include hG
set_option maxRecDepth 100000 in
set_option maxHeartbeats 4000000 in
theorem power_n (k : Nat) (hk : k < 1000) : Meets Tryz.prog G 78 [nP 10, iP k] (nP (10 ^ k)) := by
  refine meets_of_vc (Y := {}) (N := 17) (rs := [.tmp 4]) mix tk hG Tryz.func78 rfl (by kernel_rfl) rfl rfl (by simp) (by kernel_rfl) ?_
  simp (maxSteps := 10000000) only [↓sx, sx, ↓ty, ↓reduceIte, Nat.reduceEqDiff, Nat.reduceBeqDiff, Nat.reduceAdd, Nat.reduceLeDiff, Nat.reduceLT, Nat.reduceMul, Nat.reduceSub, Int.reduceEq, Int.reduceBNe, Int.reduceBEq, ne_eq, not_false_eq_true, pc, ls, bs, and_true, true_and, and_self, Nat.reduceAdd, Nat.le_refl, leafP]
  refine CallT.mk (t := ⟨⟩) (small_n hG 1 (by omega)) ?_
  simp (maxSteps := 10000000) only [↓sx, sx, ↓ty, ↓reduceIte, Nat.reduceEqDiff, Nat.reduceBeqDiff, Nat.reduceAdd, Nat.reduceLeDiff, Nat.reduceLT, Nat.reduceMul, Nat.reduceSub, Int.reduceEq, Int.reduceBNe, Int.reduceBEq, ne_eq, not_false_eq_true, pc, ls, bs, and_true, true_and, and_self, Nat.reduceAdd, Nat.le_refl, leafP]
  refine loopK_of (fun i : Nat => [(0, .p (nP 10)), (1, .p (iP k)), (5, .p (nP (10 ^ i))), (6, .p (.val (.int .i64 (i : Nat))))]) (fun _ => []) (fun _ => []) (fun i => i ≤ k) (fun i => k - i) 0 (Nat.zero_le _) ?_ ?_
  · simp (maxSteps := 10000000) only [isE_nil, is_cons, bo_p, bo_box, bo_orow, bo_rowp, any_cons', all_cons', all_nil', Bool.true_or, Bool.or_true, ↓sx, sx, ↓reduceIte, Nat.reduceEqDiff, Nat.reduceBeqDiff]
    try trivial
  · intro i hi
    have hl := Lw_ten i
    have h10 : Lw 10 ≤ 1 := Lw_le (by decide)
    by_cases hil : i < k
    · have e1 : decide ((i : Int) < (k : Int)) = true := by simp; omega
      simp (maxSteps := 10000000) only [↓sx, sx, ↓ty, ↓reduceIte, Nat.reduceEqDiff, Nat.reduceBeqDiff, Nat.reduceAdd, Nat.reduceLeDiff, Nat.reduceLT, Nat.reduceMul, Nat.reduceSub, Int.reduceEq, Int.reduceBNe, Int.reduceBEq, ne_eq, not_false_eq_true, pc, ls, bs, and_true, true_and, and_self, Nat.reduceAdd, Nat.le_refl, leafP, e1]
      refine CallT.mk (t := ⟨⟩) (times_n hG (10 ^ i) 10 (by omega) (by omega)) ?_
      simp (maxSteps := 10000000) only [↓sx, sx, ↓ty, ↓reduceIte, Nat.reduceEqDiff, Nat.reduceBeqDiff, Nat.reduceAdd, Nat.reduceLeDiff, Nat.reduceLT, Nat.reduceMul, Nat.reduceSub, Int.reduceEq, Int.reduceBNe, Int.reduceBEq, ne_eq, not_false_eq_true, pc, ls, bs, and_true, true_and, and_self, Nat.reduceAdd, Nat.le_refl, leafP]
      refine NextK.mk (i + 1) (by omega) (by omega) ?_
      simp (maxSteps := 10000000) only [isE_nil, is_cons, bo_p, bo_box, bo_orow, bo_rowp, any_cons', all_cons', all_nil', Bool.true_or, Bool.or_true, ↓sx, sx, ↓reduceIte, Nat.reduceEqDiff, Nat.reduceBeqDiff]
      rw [i64_id (by omega) (by omega)]
      try trivial
    · obtain rfl : i = k := by omega
      have e1 : decide ((i : Int) < (i : Int)) = false := by simp
      simp (maxSteps := 10000000) only [↓sx, sx, ↓ty, ↓reduceIte, Nat.reduceEqDiff, Nat.reduceBeqDiff, Nat.reduceAdd, Nat.reduceLeDiff, Nat.reduceLT, Nat.reduceMul, Nat.reduceSub, Int.reduceEq, Int.reduceBNe, Int.reduceBEq, ne_eq, not_false_eq_true, pc, ls, bs, and_true, true_and, and_self, Nat.reduceAdd, Nat.le_refl, leafP, e1]
end Go.Proofs.YtfbmphbmidlijaaGreatDoor.S
namespace Gb
open Go Go.RowKit Go.Sx
theorem u32_nat {n : Nat} (h : n < 4294967296) : IntKind.u32.wrap (n : Int) = (n : Int) := u32_id (by omega) (by omega)
end Gb
namespace Go.Proofs.YtfbmphbmidlijaaGreatDoor.S
open Go Go.Sx Go.RowKit Gb
variable {G : World → Prop} (hG : ∀ w w' : World, G w → Below w.heap.size w w' → G w')
include hG
end Go.Proofs.YtfbmphbmidlijaaGreatDoor.S
namespace Gb
open Go Go.RowKit Go.Sx
end Gb
namespace Go.Proofs.YtfbmphbmidlijaaGreatDoor.S
open Go Go.Sx Go.RowKit Gb Go.Shelf
end Go.Proofs.YtfbmphbmidlijaaGreatDoor.S
namespace Gb
open Go Go.RowKit Go.Sx
def rpartsP (l : List UInt8) : PV := if isRat l then .tup [siP (ratOf l).num, dP (ratOf l).den, iP 0] else .tup [strP [], strP [], iP 1]
end Gb
namespace Go.Proofs.YtfbmphbmidlijaaGreatDoor.S
open Go Go.Sx Go.RowKit Gb Go.Shelf
set_option maxRecDepth 100000 in
theorem parts_n (l : List UInt8) (hl : l.length < 90000) : Meets Tryz.prog Gd 15 [strP l] (rpartsP l) := by
  refine meets_of_vc (Y := {}) (N := 18) (rs := [.tmp 2, .tmp 3, .tmp 4]) mix tk gd Tryz.func15 rfl (by kernel_rfl) rfl rfl (by simp) (by kernel_rfl) ?_
  unfold rpartsP
  simp (maxSteps := 10000000) only [↓sx, sx, ↓ty, ↓reduceIte, Nat.reduceEqDiff, Nat.reduceBeqDiff, Nat.reduceAdd, Nat.reduceLeDiff, Nat.reduceLT, Nat.reduceMul, Nat.reduceSub, Int.reduceEq, Int.reduceBNe, Int.reduceBEq, ne_eq, not_false_eq_true, pc, ls, bs, and_true, true_and, and_self, Nat.reduceAdd, Nat.le_refl, leafP]
  refine CallT.mk (fread_n l (by omega)) ?_
  cases h : isRat l with
  | true =>
    rw [← fr_of h]
    simp (maxSteps := 10000000) only [↓sx, sx, ↓ty, ↓reduceIte, Nat.reduceEqDiff, Nat.reduceBeqDiff, Nat.reduceAdd, Nat.reduceLeDiff, Nat.reduceLT, Nat.reduceMul, Nat.reduceSub, Int.reduceEq, Int.reduceBNe, Int.reduceBEq, ne_eq, not_false_eq_true, pc, ls, bs, and_true, true_and, and_self, Nat.reduceAdd, Nat.le_refl, leafP, pd]
  | false =>
    simp (maxSteps := 10000000) only [↓sx, sx, ↓ty, ↓reduceIte, Nat.reduceEqDiff, Nat.reduceBeqDiff, Nat.reduceAdd, Nat.reduceLeDiff, Nat.reduceLT, Nat.reduceMul, Nat.reduceSub, Int.reduceEq, Int.reduceBNe, Int.reduceBEq, ne_eq, not_false_eq_true, pc, ls, bs, and_true, true_and, and_self, Nat.reduceAdd, Nat.le_refl, leafP]
end Go.Proofs.YtfbmphbmidlijaaGreatDoor.S
namespace Go.Sx
open Go Go.RowKit Go.ChangeShapes Go.WideShapes Go.Shelf Go.Proofs
inductive Sh where
  | str
  | bool
  | int (k : IntKind)
  | agg (l : List Sh)
  | sl (e : Sh)
mutual
def shB (P : Program) : TypeId → Sh → Bool
  | t, .str => match P.underlying t with | some .string => true | _ => false
  | t, .bool => match P.underlying t with | some .bool => true | _ => false
  | t, .int k => match P.underlying t with | some (.int k') => decide (k' = k) | _ => false
  | t, .agg l => match P.underlying t with | some (.struct fs) => shsB P 0 (P.cellsOf t) (fs.toList.map fun f => (f.offset, f.type)) l | _ => false
  | t, .sl e => match P.underlying t with | some (.slice te) => decide (0 < P.cellsOf te) && shB P te e | _ => false
def shsB (P : Program) : Nat → Nat → List (Nat × TypeId) → List Sh → Bool
  | o, n, [], [] => decide (o = n)
  | o, n, f :: fs, s :: l => decide (f.1 = o) && shB P f.2 s && shsB P (o + P.cellsOf f.2) n fs l
  | _, _, _, _ => false
end
mutual
def Fit : Sh → List PV → Prop
  | .str, cs => ∃ s : ByteArray, cs = [.val (.string s)] ∧ s.size ≤ maxLen
  | .bool, cs => ∃ b, cs = [.val (.bool b)]
  | .int k, cs => ∃ n, cs = [.val (.int k n)] ∧ (Lit.int k n).wf = true
  | .agg l, cs => Fits l cs
  | .sl e, cs => ∃ ls : List (List PV), cs = [.sl ls.length ls.flatten] ∧ ls.length ≤ maxLen ∧ ∀ x ∈ ls, Fit e x
def Fits : List Sh → List PV → Prop
  | [], cs => cs = []
  | s :: l, cs => ∃ a b, cs = a ++ b ∧ Fit s a ∧ Fits l b
end
def Fit1 : Sh → PV → Prop
  | .agg l, x => ∃ cs, x = .agg cs ∧ Fits l cs
  | s, x => Fit s [x]
def FitA : List Sh → List PV → Prop
  | [], xs => xs = []
  | s :: l, xs => ∃ y ys, xs = y :: ys ∧ Fit1 s y ∧ FitA l ys
section
variable {H : Type} {enc : TypeId × Value → H} {P : Program} {W : World} {sp : Nat → Bool} {held : Bool}
theorem cell_lt {a : Addr} {v : Value} (h : W.cell? a = some v) : a.block < W.heap.size ∧ a.spot = none := by
  unfold World.cell? at h
  split at h
  · rename_i c _ _ hc
    refine ⟨(Array.getElem?_eq_some_iff.1 hc).1, ?_⟩
    split at h
    · cases h
    · rename_i hs
      cases hq : a.spot with
      | none => rfl
      | some x => rw [hq] at hs; simp at hs
  · cases h
theorem RepL.one {B : Nat → Prop} {x : PV} {v : Value} (h : RepP B W x v) : RepL B W [x] [v] := by
  simp only [RepL]
  exact ⟨v, [], rfl, h, rfl⟩
theorem addr_add (a : Addr) (i j : Nat) : (a.add i).add j = a.add (i + j) := by
  by_cases h1 : i = 0
  · subst h1; simp [Addr.add]
  · by_cases h2 : j = 0
    · subst h2; simp [Addr.add]
    · simp [Addr.add, h1, h2, show ¬ i + j = 0 by omega, Nat.add_assoc]
theorem rows_open {te : TypeId} {n : Nat} {a : Addr} {len : Nat} {elems : List (DataW H × List MemPlace)} (R : List PV → Prop) (hlen : elems.length = len)
    (hel : ∀ i, i < len → (W.cells? 0 (a.add (i * P.cellsOf te)) (P.cellsOf te)).bind (DataW.trod enc P W 0 sp held n te) = elems[i]?)
    (ho : ∀ cs x, DataW.trod enc P W 0 sp held n te cs = some x → ∃ pcs, RepL (· < W.heap.size) W pcs cs ∧ R pcs) :
    ∀ m, m ≤ len → ∃ (ls : List (List PV)) (vs : List Value), ls.length = m ∧ vs.length = m * P.cellsOf te ∧ RepL (· < W.heap.size) W ls.flatten vs ∧ (∀ j v, vs[j]? = some v → W.cell? (a.add j) = some v) ∧ ∀ x ∈ ls, R x
  | 0, _ => ⟨[], [], rfl, by simp, by simp [RepL], by simp, by simp⟩
  | m + 1, hm => by
    obtain ⟨ls, vs, h1, h2, h3, h4, h5⟩ := rows_open R hlen hel ho m (by omega)
    have hi := hel m (by omega)
    rw [List.getElem?_eq_getElem (show m < elems.length by omega)] at hi
    obtain ⟨cs, hcs, ht⟩ := Option.bind_eq_some_iff.1 hi
    obtain ⟨_, hcl, hcc⟩ := World.cells?_some hcs
    obtain ⟨pcs, hr, hR⟩ := ho cs _ ht
    refine ⟨ls ++ [pcs], vs ++ cs, by simp [h1], by rw [List.length_append, h2, hcl, Nat.succ_mul], ?_, ?_, ?_⟩
    · rw [List.flatten_append]
      exact RepL.append h3 (by simpa using hr)
    · intro j v hj
      by_cases hjl : j < vs.length
      · rw [List.getElem?_append_left hjl] at hj
        exact h4 j v hj
      · rw [List.getElem?_append_right (by omega)] at hj
        have hjc : j - vs.length < cs.length := (List.getElem?_eq_some_iff.1 hj).1
        have := hcc (j - vs.length) (by omega)
        rw [← hj, ← this]
        congr 1
        rw [addr_add, h2, show m * P.cellsOf te + (j - m * P.cellsOf te) = j by rw [h2] at hjl; omega]
    · intro x hx
      rcases List.mem_append.1 hx with hx | hx
      · exact h5 x hx
      · rw [List.mem_singleton] at hx
        rw [hx]; exact hR
mutual
theorem openS : ∀ (s : Sh) (t : TypeId) (fuel : Nat) (cs : List Value) (x : DataW H × List MemPlace), shB P t s = true → DataW.trod enc P W 0 sp held fuel t cs = some x → ∃ pcs, RepL (· < W.heap.size) W pcs cs ∧ Fit s pcs
  | .str, t, fuel, cs, x, hs, h => by
    unfold shB at hs
    split at hs
    · rename_i hu
      obtain ⟨s, rfl, rfl, hm⟩ := DataW.trod_string hu h
      exact ⟨[.val (.string s)], RepL.one (by simp [RepP]), by simp only [Fit]; exact ⟨s, rfl, hm⟩⟩
    · cases hs
  | .bool, t, fuel, cs, x, hs, h => by
    unfold shB at hs
    split at hs
    · rename_i hu
      obtain ⟨b, rfl, rfl⟩ := DataW.trod_bool hu h
      exact ⟨[.val (.bool b)], RepL.one (by simp [RepP]), by simp only [Fit]; exact ⟨b, rfl⟩⟩
    · cases hs
  | .int k, t, fuel, cs, x, hs, h => by
    unfold shB at hs
    split at hs
    · rename_i k' hu
      obtain rfl := of_decide_eq_true hs
      obtain ⟨n, rfl, rfl, hw⟩ := DataW.trod_int hu h
      exact ⟨[.val (.int k' n)], RepL.one (by simp [RepP]), by simp only [Fit]; exact ⟨n, rfl, hw⟩⟩
    · cases hs
  | .agg l, t, fuel, cs, x, hs, h => by
    unfold shB at hs
    split at hs
    · rename_i fs hu
      obtain ⟨xs, n, _, _, hl, hlen, hf⟩ := DataW.trod_struct hu h
      have := openSs l (fs.toList.map fun f => (f.offset, f.type)) 0 (P.cellsOf t) n cs hs hl fun i f hi => by
        rw [List.getElem?_map, Option.map_eq_some_iff] at hi
        obtain ⟨g, hg, rfl⟩ := hi
        rw [Array.getElem?_toList] at hg
        have h2 := hf i g hg
        have hi : i < fs.size := (Array.getElem?_eq_some_iff.1 hg).1
        rw [List.getElem?_eq_getElem (by omega)] at h2
        exact ⟨_, h2⟩
      simpa only [Fit, List.drop_zero] using this
    · cases hs
  | .sl e, t, fuel, cs, x, hs, h => by
    unfold shB at hs
    split at hs
    · rename_i te hu
      rw [Bool.and_eq_true, decide_eq_true_eq] at hs
      simp only [Fit]
      rcases DataW.trod_slice hu h with ⟨rfl, _⟩ | ⟨a, len, cap, elems, rest, n, _, rfl, _, _, hl, hm, hlen, hel, _⟩
      · refine ⟨[.sl 0 []], RepL.one ?_, [], rfl, by simp, by simp⟩
        simp only [RepP]
        exact ⟨none, 0, rfl, Nat.le_refl _, .inl rfl, .inl trivial⟩
      · obtain ⟨ls, vs, h1, h2, h3, h4, h5⟩ := rows_open (Fit e) hlen hel (fun cs x ht => openS e te n cs x hs.2 ht) len (Nat.le_refl _)
        refine ⟨[.sl ls.length ls.flatten], RepL.one ?_, ls, rfl, by omega, h5⟩
        simp only [RepP]
        refine ⟨some a, cap, by rw [h1], by omega, .inr (by simp), ?_⟩
        cases vs with
        | nil =>
          left
          have := h3.length
          exact List.eq_nil_of_length_eq_zero this.symm
        | cons v vs =>
          right
          have h0 := h4 0 v rfl
          obtain ⟨q1, q2⟩ := cell_lt h0
          obtain ⟨b, o, sp⟩ := a
          simp only [Addr.add] at q1 q2
          subst q2
          refine ⟨b, o, rfl, q1, RepC.of_vals h3 fun j v hj => ?_⟩
          have := h4 j v hj
          have e : (⟨b, o, none⟩ : Addr).add j = ⟨b, o + j, none⟩ := by
            unfold Addr.add
            split
            · subst_vars; rfl
            · rfl
          rwa [e] at this
    · cases hs
theorem openSs : ∀ (l : List Sh) (fs : List (Nat × TypeId)) (o n fuel : Nat) (cs : List Value), shsB P o n fs l = true → cs.length = n → (∀ (i : Nat) f, fs[i]? = some f → ∃ y, DataW.trod enc P W 0 sp held fuel f.2 ((cs.drop f.1).take (P.cellsOf f.2)) = some y) →
    ∃ pcs, RepL (· < W.heap.size) W pcs (cs.drop o) ∧ Fits l pcs
  | [], [], o, n, fuel, cs, hs, hn, _ => by
    simp only [shsB, decide_eq_true_eq] at hs
    refine ⟨[], ?_, by simp [Fits]⟩
    rw [List.drop_eq_nil_of_le (by omega)]
    simp [RepL]
  | s :: l, f :: fs, o, n, fuel, cs, hs, hn, hf => by
    simp only [shsB, Bool.and_eq_true, decide_eq_true_eq] at hs
    obtain ⟨⟨rfl, h2⟩, h3⟩ := hs
    obtain ⟨y, hy⟩ := hf 0 f rfl
    obtain ⟨p1, r1, f1⟩ := openS s f.2 fuel _ y h2 hy
    obtain ⟨p2, r2, f2⟩ := openSs l fs (f.1 + P.cellsOf f.2) n fuel cs h3 hn fun i g hg => hf (i + 1) g (by simpa using hg)
    refine ⟨p1 ++ p2, ?_, by simp only [Fits]; exact ⟨p1, p2, rfl, f1, f2⟩⟩
    have := RepL.append r1 r2
    rwa [← List.drop_drop, List.take_append_drop] at this
  | [], _ :: _, o, n, fuel, cs, hs, _, _ => by simp [shsB] at hs
  | _ :: _, [], o, n, fuel, cs, hs, _, _ => by simp [shsB] at hs
end
theorem openV {base : Nat} (s : Sh) (t : TypeId) (v : Value) (d : DataW H) (ps : List MemPlace) (hs : shB P t s = true) (hok : Value.okWide P W .any base t v) (h : DataW.Trod enc P W 0 sp held t v d ps) :
    ∃ x, RepP (· < W.heap.size) W x v ∧ Fit1 s x := by
  obtain ⟨fuel, hv⟩ := h
  obtain ⟨pcs, hr, hf⟩ := openS s t fuel _ _ hs hv
  cases s with
  | agg l =>
    unfold shB at hs
    split at hs
    · rename_i fs hu
      simp only [Value.okWide, hu] at hok
      obtain ⟨cs, rfl, _, _⟩ := hok
      refine ⟨.agg pcs, ?_, pcs, rfl, by simpa only [Fit] using hf⟩
      simp only [RepP]
      exact ⟨cs.toList, rfl, hr⟩
    · cases hs
  | str =>
    simp only [Fit] at hf
    obtain ⟨s, rfl, hm⟩ := hf
    unfold shB at hs
    split at hs
    · rename_i hu
      simp only [RepL, RepP] at hr
      obtain ⟨y, ys, hc, rfl, rfl⟩ := hr
      have : v = .string s := by
        cases v <;> simp [Value.cells, Value.okWide, hu, Cell.okWide, Cell.ok] at hc hok ⊢
        exact hc
      subst this
      exact ⟨.val (.string s), by simp [RepP], by simp only [Fit1, Fit]; exact ⟨s, rfl, hm⟩⟩
    · cases hs
  | bool =>
    simp only [Fit] at hf
    obtain ⟨s, rfl⟩ := hf
    unfold shB at hs
    split at hs
    · rename_i hu
      simp only [RepL, RepP] at hr
      obtain ⟨y, ys, hc, rfl, rfl⟩ := hr
      have : v = .bool s := by
        cases v <;> simp [Value.cells, Value.okWide, hu, Cell.okWide, Cell.ok] at hc hok ⊢
        exact hc
      subst this
      exact ⟨.val (.bool s), by simp [RepP], by simp only [Fit1, Fit]; exact ⟨s, rfl⟩⟩
    · cases hs
  | int k =>
    simp only [Fit] at hf
    obtain ⟨s, rfl, hm⟩ := hf
    unfold shB at hs
    split at hs
    · rename_i k' hu
      simp only [RepL, RepP] at hr
      obtain ⟨y, ys, hc, rfl, rfl⟩ := hr
      have : v = .int k s := by
        cases v <;> simp [Value.cells, Value.okWide, hu, Cell.okWide, Cell.ok] at hc hok ⊢
        exact hc
      subst this
      exact ⟨.val (.int k s), by simp [RepP], by simp only [Fit1, Fit]; exact ⟨s, rfl, hm⟩⟩
    · cases hs
  | sl e =>
    unfold shB at hs
    split at hs
    · rename_i te hu
      have hf' := hf
      simp only [Fit] at hf
      obtain ⟨ls, rfl, hm, hx⟩ := hf
      simp only [RepL] at hr
      obtain ⟨y, ys, hc, hr, rfl⟩ := hr
      have : v = y := by
        cases v <;> simp [Value.cells, Value.okWide, hu, Cell.okWide, Cell.ok] at hc hok ⊢ <;> first | exact hc | skip
      subst this
      exact ⟨_, hr, by simp only [Fit1]; exact hf'⟩
    · cases hs
def shAB (P : Program) : List TypeId → List Sh → Bool
  | [], [] => true
  | t :: ts, s :: l => shB P t s && shAB P ts l
  | _, _ => false
theorem openA {base : Nat} : ∀ (l : List Sh) (ts : List TypeId) (vs : List Value) (ds : List (DataW H)) (ps : List MemPlace), shAB P ts l = true → (∀ (j : Nat) t v, ts[j]? = some t → vs[j]? = some v → Value.okWide P W .any base t v) → DataW.TrodAll enc P W 0 sp held ts vs ds ps →
    ∃ xs, RepL (· < W.heap.size) W xs vs ∧ FitA l xs
  | [], [], [], [], ps, _, _, _ => ⟨[], by simp [RepL], by simp [FitA]⟩
  | s :: l, t :: ts, v :: vs, d :: ds, ps, hs, hok, h => by
    simp only [shAB, Bool.and_eq_true] at hs
    obtain ⟨p, q, h1, h2, rfl⟩ := h
    obtain ⟨x, rx, fx⟩ := openV s t v d p hs.1 (hok 0 t v rfl rfl) h1
    obtain ⟨xs, rxs, fxs⟩ := openA l ts vs ds q hs.2 (fun j t v h1 h2 => hok (j + 1) t v (by simpa using h1) (by simpa using h2)) h2
    refine ⟨x :: xs, ?_, by simp only [FitA]; exact ⟨x, xs, rfl, fx, fxs⟩⟩
    simp only [RepL]
    exact ⟨v, vs, rfl, rx, rxs⟩
  | [], _ :: _, _, _, _, hs, _, _ => by simp [shAB] at hs
  | _ :: _, [], _, _, _, hs, _, _ => by simp [shAB] at hs
  | [], [], _ :: _, _, _, _, _, h => h.elim
  | [], [], [], _ :: _, _, _, _, h => h.elim
  | _ :: _, _ :: _, [], _, _, _, _, h => h.elim
  | _ :: _, _ :: _, _ :: _, [], _, _, _, h => h.elim
theorem below_trodAll (hl : laidOutB P = true) {W' : World} (hb : Below W.heap.size W W') : ∀ {ts : List TypeId} {vs : List Value} {ds : List (DataW H)} {ps : List MemPlace}, (ts.all fun t => P.readableRec t && decide (t < P.types.size)) = true →
    DataW.TrodAll enc P W 0 (fun _ => true) true ts vs ds ps → DataW.TrodAll enc P W' 0 (fun b => decide (b < W.heap.size)) true ts vs ds ps
  | [], [], [], _, _, h => h
  | t :: ts, v :: vs, d :: ds, ps, ht, h => by
    have hlt := DataW.TrodAll.lt h
    obtain ⟨p, q, h1, h2, rfl⟩ := h
    rw [List.all_cons, Bool.and_eq_true, Bool.and_eq_true, decide_eq_true_eq] at ht
    exact ⟨p, q, Below.trod hl ht.1.1 ht.1.2 h1 hb fun x hx => hlt x (List.mem_append_left _ hx), below_trodAll hl hb ht.2 h2, rfl⟩
  | [], _ :: _, _, _, _, h => h.elim
  | [], [], _ :: _, _, _, h => h.elim
  | _ :: _, [], _, _, _, h => h.elim
  | _ :: _, _ :: _, [], _, _, h => h.elim
theorem law_calls {G : World → Prop} {f : FuncId} {base : Nat} {l : List Sh} {ts : List TypeId} {vs : List Value} {ds : List (DataW H)} {ps : List MemPlace} (hs : shAB P ts l = true) (law : ∀ xs, FitA l xs → Meets P G f xs (.val (.bool true)))
    (hok : ∀ (j : Nat) t v, ts[j]? = some t → vs[j]? = some v → Value.okWide P W .any base t v) (h : DataW.TrodAll enc P W 0 sp held ts vs ds ps) (hG : G W) :
    Calls P f ⟨vs⟩ W fun e W' => e = .returned (.bool true) ∧ Below W.heap.size W W' := by
  obtain ⟨xs, hr, hf⟩ := openA l ts vs ds ps hs hok h
  refine ((law xs hf).calls _ vs W (fun b hb => hb) hr hG).mono fun e W' ⟨v, he, hv, hb⟩ => ?_
  simp only [RepP] at hv
  subst hv
  exact ⟨he, hb⟩
end
def CloneC (P : Program) (F el : TypeId) (sz : Nat) : Prop := ∀ (v : Value) (n : Nat) (us : List Value) (w : World), ((v = .slice none 0 0 ∧ n = 0 ∧ us = []) ∨ ∃ ad c, v = .slice (some ad) n c ∧ us.length = n * sz ∧ (∀ j u, us[j]? = some u → w.cell? (ad.add j) = some u)) → (∀ u ∈ us, u.oneCell' = true) → n ≤ 1000000 →
  Calls P F #[v] w fun e w' => ∃ x, e = .returned x ∧ Below w.heap.size w w' ∧ w'.ownsRow w.heap.size el sz x n us
theorem clone_args {B : Nat → Prop} {w : World} {n sz : Nat} {cs : List PV} {v : Value} (hv : RepP B w (.sl n cs) v) (hl : cs.length = n * sz) : ∃ us, RepL B w cs us ∧ ((v = .slice none 0 0 ∧ n = 0 ∧ us = []) ∨ ∃ ad c, v = .slice (some ad) n c ∧ us.length = n * sz ∧ (∀ j u, us[j]? = some u → w.cell? (ad.add j) = some u)) := by
  simp only [RepP] at hv
  obtain ⟨a, c, rfl, h1, h2, h3⟩ := hv
  cases a with
  | none =>
    have hc : c = 0 := by
      rcases h2 with h | h
      · exact h
      · exact absurd rfl h
    subst hc
    have hn : n = 0 := by omega
    subst hn
    have : cs = [] := List.eq_nil_of_length_eq_zero (by rw [hl]; simp)
    subst this
    exact ⟨[], by simp [RepL], .inl ⟨rfl, rfl, rfl⟩⟩
  | some ad =>
    rcases h3 with rfl | ⟨b, o, e, hb, hr⟩
    · exact ⟨[], by simp [RepL], .inr ⟨ad, c, rfl, by simpa using hl, by simp⟩⟩
    · cases e
      obtain ⟨us, hu, hc⟩ := repC_cells hr
      exact ⟨us, hu, .inr ⟨_, c, rfl, by rw [hu.length, hl], hc⟩⟩
theorem ownsRow_zero {w : World} {b : Nat} {el : TypeId} {sz n : Nat} {x : Value} {us : List Value} (h : w.ownsRow b el sz x n us) : w.ownsRow 0 el sz x n us ∧ ∀ g, x.ownBlock = some g → b ≤ g ∧ g < w.heap.size := by
  refine ⟨⟨h.1, ?_⟩, h.lt⟩
  rcases h.2 with h | ⟨g, cap, cur, h1, _, h2⟩
  · exact .inl h
  · exact .inr ⟨g, cap, cur, h1, Nat.zero_le _, h2⟩
theorem clone_r {P : Program} {G : World → Prop} {F el : TypeId} {sz : Nat} (he : Enters P F) (h : CloneC P F el sz) {n : Nat} {cs : List PV} (hl : cs.length = n * sz) (hf : cs.all leafP = true) (hn : n ≤ 1000000) : MeetsR P G F [.sl n cs] ⟨el, sz, n, cs, false⟩ := by
  refine ⟨he, fun B vs w hB hr hG => ?_⟩
  simp only [RepL] at hr
  obtain ⟨v, _, rfl, hv, rfl⟩ := hr
  obtain ⟨us, hu, hc⟩ := clone_args hv hl
  refine (h v n us w hc (leaf_one hu hf) hn).mono fun e w' ⟨x, h1, h2, h3⟩ => ?_
  obtain ⟨h4, h5⟩ := ownsRow_zero h3
  refine ⟨x, us, h1, h2, h4, RepL.mono (fun b hb => ?_) _ _ hu, fun g hg => (h5 g hg).1⟩
  have hb1 := hB b hb
  refine ⟨⟨.inl hb, Nat.lt_of_lt_of_le hb1 h2.size, fun e => ?_⟩, h2.block _ hb1⟩
  have := (h5 b e).1
  omega
theorem clone_m {P : Program} {G : World → Prop} {F el : TypeId} {sz : Nat} (he : Enters P F) (h : CloneC P F el sz) {n : Nat} {cs : List PV} (hl : cs.length = n * sz) (hf : cs.all leafP = true) (hn : n ≤ 1000000) : Meets P G F [.sl n cs] (.sl n cs) := by
  refine ⟨he, fun B vs w hB hr hG => ?_⟩
  simp only [RepL] at hr
  obtain ⟨v, _, rfl, hv, rfl⟩ := hr
  obtain ⟨us, hu, hc⟩ := clone_args hv hl
  refine (h v n us w hc (leaf_one hu hf) hn).mono fun e w' ⟨x, h1, h2, h3⟩ => ?_
  obtain ⟨h4, h5⟩ := ownsRow_zero h3
  refine ⟨x, h1, ownsRow_slice h4 (RepL.mono (fun b hb => ?_) _ _ hu) fun g hg => ?_, h2⟩
  · have hb1 := hB b hb
    exact ⟨⟨.inl hb, Nat.lt_of_lt_of_le hb1 h2.size⟩, h2.block _ hb1⟩
  · exact ⟨.inr (h5 g hg).1, (h5 g hg).2⟩
end Go.Sx
namespace Gb
open Go Go.RowKit Go.Sx
theorem str_eta (s : ByteArray) : (⟨s.data.toList.toArray⟩ : ByteArray) = s := by cases s; simp
theorem fit_str {x : PV} (h : Fit1 .str x) : ∃ a : List UInt8, x = strP a ∧ a.length ≤ maxLen := by
  simp only [Fit1, Fit] at h
  obtain ⟨s, h1, h2⟩ := h
  rw [List.cons.injEq] at h1
  exact ⟨s.data.toList, by rw [h1.1]; unfold strP; rw [str_eta], by rw [Array.length_toList]; exact h2⟩
theorem fit_int {k : IntKind} {x : PV} (h : Fit1 (.int k) x) : ∃ n, x = .val (.int k n) ∧ (Lit.int k n).wf = true := by
  simp only [Fit1, Fit] at h
  obtain ⟨n, h1, h2⟩ := h
  rw [List.cons.injEq] at h1
  exact ⟨n, h1.1, h2⟩
theorem fit_i {x : PV} (h : Fit1 (.int .i64) x) : ∃ n : Int, x = iP n ∧ -9223372036854775808 ≤ n ∧ n ≤ 9223372036854775807 := by
  obtain ⟨n, h1, h2⟩ := fit_int h
  exact ⟨n, h1, bounds_i64 h2⟩
theorem fita_nil {xs : List PV} (h : FitA [] xs) : xs = [] := h
theorem fita_cons {s : Sh} {l : List Sh} {xs : List PV} (h : FitA (s :: l) xs) : ∃ y ys, xs = y :: ys ∧ Fit1 s y ∧ FitA l ys := h
end Gb
namespace Gb
open Go Go.RowKit Go.Sx
def long60 (a : List UInt8) : Bool := decide (60 < a.length)
theorem rt_lit {x : Rat} {l : List UInt8} (h : isRat l = true) (e : x = ratOf l) : rtP x = strP l := by unfold rtP; rw [e, rT_ratOf h]
theorem si_lit {z : Int} {l : List UInt8} (h : isInt l = true) (e : z = intOf l) : siP z = strP l := by unfold siP; rw [e, iD_intOf h]
theorem rop_lit {f : Rat → Rat → Rat} {a b c : List UInt8} (ha : isRat a = true) (hb : isRat b = true) (hc : isRat c = true) (e : f (ratOf a) (ratOf b) = ratOf c) : ropP f a b = .tup [strP c, iP 0] := by
  unfold ropP; rw [ha, hb, if_pos (show (true && true) = true from rfl), rt_lit hc e]
theorem aw3_a : ropP (· + ·) [49, 47, 50] [49, 47, 51] = .tup [strP [53, 47, 54], iP 0] := rop_lit (by decide +kernel) (by decide +kernel) (by decide +kernel) (by decide +kernel)
theorem aw3_b : rdivP [51, 47, 52] [45, 51, 47, 50] = .tup [strP [45, 49, 47, 50], iP 0] := by
  unfold rdivP
  rw [if_pos (by decide +kernel), if_neg (by decide +kernel), rt_lit (l := [45, 49, 47, 50]) (by decide +kernel) (by decide +kernel)]
theorem aw3_c : rfloorP [45, 49, 47, 50] = .tup [strP [45, 49], iP 0] := by
  unfold rfloorP
  rw [if_pos (by decide +kernel), si_lit (l := [45, 49]) (by decide +kernel) (by decide +kernel)]
theorem aw3_d : rdecP [45, 50, 47, 51] 2 = .tup [strP [45, 48, 46, 54, 55], iP 0] := by
  unfold rdecP
  rw [if_pos (by decide +kernel), if_neg (by decide)]
  have e : decS (ratOf [45, 50, 47, 51]) (2 : Int).toNat = natOf [54, 55] := by decide +kernel
  unfold decT
  rw [e, dec_natOf (by decide +kernel), if_pos ⟨by decide +kernel, by decide +kernel⟩]
  rfl
theorem aw3_x : rdecP [53, 47, 50] 0 = .tup [strP [51], iP 0] := by
  unfold rdecP
  rw [if_pos (by decide +kernel), if_neg (by decide)]
  have e : decS (ratOf [53, 47, 50]) (0 : Int).toNat = natOf [51] := by decide +kernel
  unfold decT
  rw [e, dec_natOf (by decide +kernel), if_neg (by decide +kernel)]
  rfl
theorem aw3_y : rparseP [48, 46, 50, 53, 48] = .tup [strP [49, 47, 52], iP 0] := by
  unfold rparseP
  rw [if_neg (by decide +kernel), if_pos (by decide +kernel), rt_lit (l := [49, 47, 52]) (by decide +kernel) (by decide +kernel)]
theorem aw3_z : rsimplP [51, 47, 49, 48] [50, 47, 53] = .tup [strP [49, 47, 51], iP 0] := by
  unfold rsimplP
  rw [if_pos (by decide +kernel), if_neg (by decide +kernel), rt_lit (l := [49, 47, 51]) (by decide +kernel) (by decide +kernel)]
theorem aw3_w : rsimplP [45, 49, 47, 50] [53] = .tup [strP [48], iP 0] := by
  unfold rsimplP
  rw [if_pos (by decide +kernel), if_neg (by decide +kernel), rt_lit (l := [48]) (by decide +kernel) (by decide +kernel)]
theorem aw3_m : rmakeP [54] [45, 52] = .tup [strP [45, 51, 47, 50], iP 0] := by
  unfold rmakeP
  rw [if_pos (by decide +kernel), if_neg (by decide +kernel), rt_lit (l := [45, 51, 47, 50]) (by decide +kernel) (by decide +kernel)]
theorem aw3_p : rpartsP [45, 51, 47, 50] = .tup [strP [45, 51], strP [50], iP 0] := by
  unfold rpartsP
  have e : (ratOf [45, 51, 47, 50]).den = natOf [50] := by decide +kernel
  rw [if_pos (by decide +kernel), si_lit (l := [45, 51]) (by decide +kernel) (by decide +kernel), e]
  unfold dP
  rw [dec_natOf (by decide +kernel)]
theorem aw3_s : rcmpP [49, 47, 51] [49, 47, 50] = .tup [iP (-1), iP 0] := by
  unfold rcmpP
  rw [if_pos (by decide +kernel), show (ratOf [49, 47, 51] - ratOf [49, 47, 50]).num.sign = -1 by decide +kernel]
theorem aw3_u : ropP (· - ·) [49, 47, 50] [49, 47, 50] = .tup [strP [48], iP 0] := rop_lit (by decide +kernel) (by decide +kernel) (by decide +kernel) (by decide +kernel)
theorem aw3_n : ropP (· * ·) [50, 47, 51] [51, 47, 50] = .tup [strP [49], iP 0] := rop_lit (by decide +kernel) (by decide +kernel) (by decide +kernel) (by decide +kernel)
theorem aw3_v : isRat [45, 51, 47, 52] = true ∧ isRat [50, 47, 52] = false ∧ isRat [] = false := by decide +kernel
end Gb
namespace Go.Proofs.YtfbmphbmidlijaaGreatDoor.S
open Go Go.Sx Go.RowKit Gb Go.Shelf
set_option maxRecDepth 100000 in
set_option maxHeartbeats 4000000 in
theorem long3_n (l : List (List UInt8)) (hl : l.length ≤ 9223372036854775807) : Meets Tryz.prog Gd 12 [.sl l.length (texts l)] (.val (.bool (l.any long60))) := by
  refine meets_of_vc (Y := {}) (N := 15) (rs := [.tmp 2]) mix tk gd Tryz.func12 rfl (by kernel_rfl) rfl rfl (by simp) (by kernel_rfl) ?_
  simp (maxSteps := 10000000) only [↓sx, sx, ↓ty, ↓reduceIte, Nat.reduceEqDiff, Nat.reduceBeqDiff, Nat.reduceAdd, Nat.reduceLeDiff, Nat.reduceLT, Nat.reduceMul, Nat.reduceSub, Int.reduceEq, Int.reduceBNe, Int.reduceBEq, ne_eq, not_false_eq_true, pc, ls, bs, and_true, true_and, and_self, Nat.reduceAdd, Nat.le_refl, leafP]
  refine loopK_of (fun i : Nat => [(0, .p (.sl l.length (texts l))), (2, .p (.val (.bool false))), (5, .p (.sl l.length (texts l))), (6, .p (.val (.int .i64 (l.length : Nat)))), (7, .p (.val (.int .i64 (i : Nat))))]) (fun _ => []) (fun _ => []) (fun i => i ≤ l.length ∧ ∀ y ∈ l.take i, long60 y = false) (fun i => l.length - i) 0 ⟨Nat.zero_le _, by simp⟩ ?_ ?_
  · simp (maxSteps := 10000000) only [isE_nil, is_cons, bo_p, bo_box, bo_orow, bo_rowp, any_cons', all_cons', all_nil', Bool.true_or, Bool.or_true, ↓sx, sx, ↓reduceIte, Nat.reduceEqDiff, Nat.reduceBeqDiff]
    try trivial
  · rintro i ⟨hi, hv⟩
    by_cases hil : i < l.length
    · have e1 : decide ((i : Int) < (l.length : Int)) = true := by simp; omega
      obtain ⟨a, ha⟩ : ∃ a, l[i]? = some a := ⟨l[i], List.getElem?_eq_getElem hil⟩
      have hm : a ∈ l := List.mem_of_getElem? ha
      have hd : (texts l)[i]? = some (strP a) := by unfold texts; rw [List.getElem?_map, ha]; rfl
      have hn : (texts l).length = l.length := by unfold texts; simp
      have hlg : decide ((a.length : Int) > 60) = long60 a := by unfold long60; congr 1; apply propext; omega
      simp (maxSteps := 10000000) only [↓sx, sx, ↓ty, ↓reduceIte, Nat.reduceEqDiff, Nat.reduceBeqDiff, Nat.reduceAdd, Nat.reduceLeDiff, Nat.reduceLT, Nat.reduceMul, Nat.reduceSub, Int.reduceEq, Int.reduceBNe, Int.reduceBEq, ne_eq, not_false_eq_true, pc, ls, bs, and_true, true_and, and_self, Nat.reduceAdd, Nat.le_refl, leafP, e1, hd, hn, hlg]
      refine ⟨⟨by omega, hil⟩, ?_⟩
      cases hfa : long60 a with
      | true =>
        simp (maxSteps := 10000000) only [↓sx, sx, ↓ty, ↓reduceIte, Nat.reduceEqDiff, Nat.reduceBeqDiff, Nat.reduceAdd, Nat.reduceLeDiff, Nat.reduceLT, Nat.reduceMul, Nat.reduceSub, Int.reduceEq, Int.reduceBNe, Int.reduceBEq, ne_eq, not_false_eq_true, pc, ls, bs, and_true, true_and, and_self, Nat.reduceAdd, Nat.le_refl, leafP, hlg, hfa]
        rw [List.any_eq_true.2 ⟨a, hm, hfa⟩]
      | false =>
        simp (maxSteps := 10000000) only [↓sx, sx, ↓ty, ↓reduceIte, Nat.reduceEqDiff, Nat.reduceBeqDiff, Nat.reduceAdd, Nat.reduceLeDiff, Nat.reduceLT, Nat.reduceMul, Nat.reduceSub, Int.reduceEq, Int.reduceBNe, Int.reduceBEq, ne_eq, not_false_eq_true, pc, ls, bs, and_true, true_and, and_self, Nat.reduceAdd, Nat.le_refl, leafP, hlg, hfa]
        refine NextK.mk (i + 1) (by omega) ⟨by omega, ?_⟩ ?_
        · intro y hy
          rw [take_snocA ha] at hy
          rcases List.mem_append.1 hy with hy | hy
          · exact hv y hy
          · rw [List.mem_singleton] at hy; rw [hy]; exact hfa
        · simp (maxSteps := 10000000) only [isE_nil, is_cons, bo_p, bo_box, bo_orow, bo_rowp, any_cons', all_cons', all_nil', Bool.true_or, Bool.or_true, ↓sx, sx, ↓reduceIte, Nat.reduceEqDiff, Nat.reduceBeqDiff]
          rw [i64_id (by omega) (by omega)]
          try rfl
    · obtain rfl : i = l.length := by omega
      rw [List.take_length] at hv
      have e1 : decide ((l.length : Int) < (l.length : Int)) = false := by simp
      simp (maxSteps := 10000000) only [↓sx, sx, ↓ty, ↓reduceIte, Nat.reduceEqDiff, Nat.reduceBeqDiff, Nat.reduceAdd, Nat.reduceLeDiff, Nat.reduceLT, Nat.reduceMul, Nat.reduceSub, Int.reduceEq, Int.reduceBNe, Int.reduceBEq, ne_eq, not_false_eq_true, pc, ls, bs, and_true, true_and, and_self, Nat.reduceAdd, Nat.le_refl, leafP, e1]
      rw [List.any_eq_false.2 fun y hy => by rw [hv y hy]; decide]
set_option maxRecDepth 100000 in
set_option maxHeartbeats 8000000 in
theorem awake3_n : Meets Tryz.prog Gd 11 [] (.val (.bool true)) := by
  refine meets_of_vc (Y := {}) (N := 174) (rs := [.tmp 0]) mix tk gd Tryz.func11 rfl (by kernel_rfl) rfl rfl (by simp) (by kernel_rfl) ?_
  have ha := radd_n [49, 47, 50] [49, 47, 51] (by simp) (by simp)
  have hb := rdiv_n [51, 47, 52] [45, 51, 47, 50] (by simp) (by simp)
  have hc := rfloor_n [45, 49, 47, 50] (by simp)
  have hd := rdecimal_n [45, 50, 47, 51] 2 (by simp)
  have hx := rdecimal_n [53, 47, 50] 0 (by simp)
  have hy := rparse_n [48, 46, 50, 53, 48] (by simp)
  have hz := rsimplest_n [51, 47, 49, 48] [50, 47, 53] (by simp) (by simp)
  have hw := rsimplest_n [45, 49, 47, 50] [53] (by simp) (by simp)
  have hm := rmake_n [54] [45, 52] (by simp) (by simp)
  have hp := parts_n [45, 51, 47, 50] (by simp)
  have hs := rcmp_n [49, 47, 51] [49, 47, 50] (by simp) (by simp)
  have hu := rsub_n [49, 47, 50] [49, 47, 50] (by simp) (by simp)
  have hn := rmul_n [50, 47, 51] [51, 47, 50] (by simp) (by simp)
  rw [aw3_a] at ha
  rw [aw3_b] at hb
  rw [aw3_c] at hc
  rw [aw3_d] at hd
  rw [aw3_x] at hx
  rw [aw3_y] at hy
  rw [aw3_z] at hz
  rw [aw3_w] at hw
  rw [aw3_m] at hm
  rw [aw3_p] at hp
  rw [aw3_s] at hs
  rw [aw3_u] at hu
  rw [aw3_n] at hn
  have v1 := rvalid_n [45, 51, 47, 52] (by simp)
  have v2 := rvalid_n [50, 47, 52] (by simp)
  have v3 := rvalid_n [] (by simp)
  rw [aw3_v.1] at v1
  rw [aw3_v.2.1] at v2
  rw [aw3_v.2.2] at v3
  simp (maxSteps := 10000000) only [↓sx, sx, ↓ty, ↓reduceIte, Nat.reduceEqDiff, Nat.reduceBeqDiff, Nat.reduceAdd, Nat.reduceLeDiff, Nat.reduceLT, Nat.reduceMul, Nat.reduceSub, Int.reduceEq, Int.reduceBNe, Int.reduceBEq, ne_eq, not_false_eq_true, pc, ls, bs, and_true, true_and, and_self, Nat.reduceAdd, Nat.le_refl, leafP]
  refine CallT.mk (t := ⟨⟩) ha ?_
  simp (maxSteps := 10000000) only [↓sx, sx, ↓ty, ↓reduceIte, Nat.reduceEqDiff, Nat.reduceBeqDiff, Nat.reduceAdd, Nat.reduceLeDiff, Nat.reduceLT, Nat.reduceMul, Nat.reduceSub, Int.reduceEq, Int.reduceBNe, Int.reduceBEq, ne_eq, not_false_eq_true, pc, ls, bs, and_true, true_and, and_self, Nat.reduceAdd, Nat.le_refl, leafP]
  refine CallT.mk (t := ⟨⟩) hb ?_
  simp (maxSteps := 10000000) only [↓sx, sx, ↓ty, ↓reduceIte, Nat.reduceEqDiff, Nat.reduceBeqDiff, Nat.reduceAdd, Nat.reduceLeDiff, Nat.reduceLT, Nat.reduceMul, Nat.reduceSub, Int.reduceEq, Int.reduceBNe, Int.reduceBEq, ne_eq, not_false_eq_true, pc, ls, bs, and_true, true_and, and_self, Nat.reduceAdd, Nat.le_refl, leafP]
  refine CallT.mk (t := ⟨⟩) hc ?_
  simp (maxSteps := 10000000) only [↓sx, sx, ↓ty, ↓reduceIte, Nat.reduceEqDiff, Nat.reduceBeqDiff, Nat.reduceAdd, Nat.reduceLeDiff, Nat.reduceLT, Nat.reduceMul, Nat.reduceSub, Int.reduceEq, Int.reduceBNe, Int.reduceBEq, ne_eq, not_false_eq_true, pc, ls, bs, and_true, true_and, and_self, Nat.reduceAdd, Nat.le_refl, leafP]
  refine CallT.mk (t := ⟨⟩) hd ?_
  simp (maxSteps := 10000000) only [↓sx, sx, ↓ty, ↓reduceIte, Nat.reduceEqDiff, Nat.reduceBeqDiff, Nat.reduceAdd, Nat.reduceLeDiff, Nat.reduceLT, Nat.reduceMul, Nat.reduceSub, Int.reduceEq, Int.reduceBNe, Int.reduceBEq, ne_eq, not_false_eq_true, pc, ls, bs, and_true, true_and, and_self, Nat.reduceAdd, Nat.le_refl, leafP]
  refine CallT.mk (t := ⟨⟩) hx ?_
  simp (maxSteps := 10000000) only [↓sx, sx, ↓ty, ↓reduceIte, Nat.reduceEqDiff, Nat.reduceBeqDiff, Nat.reduceAdd, Nat.reduceLeDiff, Nat.reduceLT, Nat.reduceMul, Nat.reduceSub, Int.reduceEq, Int.reduceBNe, Int.reduceBEq, ne_eq, not_false_eq_true, pc, ls, bs, and_true, true_and, and_self, Nat.reduceAdd, Nat.le_refl, leafP]
  refine CallT.mk (t := ⟨⟩) hy ?_
  simp (maxSteps := 10000000) only [↓sx, sx, ↓ty, ↓reduceIte, Nat.reduceEqDiff, Nat.reduceBeqDiff, Nat.reduceAdd, Nat.reduceLeDiff, Nat.reduceLT, Nat.reduceMul, Nat.reduceSub, Int.reduceEq, Int.reduceBNe, Int.reduceBEq, ne_eq, not_false_eq_true, pc, ls, bs, and_true, true_and, and_self, Nat.reduceAdd, Nat.le_refl, leafP]
  refine CallT.mk (t := ⟨⟩) hz ?_
  simp (maxSteps := 10000000) only [↓sx, sx, ↓ty, ↓reduceIte, Nat.reduceEqDiff, Nat.reduceBeqDiff, Nat.reduceAdd, Nat.reduceLeDiff, Nat.reduceLT, Nat.reduceMul, Nat.reduceSub, Int.reduceEq, Int.reduceBNe, Int.reduceBEq, ne_eq, not_false_eq_true, pc, ls, bs, and_true, true_and, and_self, Nat.reduceAdd, Nat.le_refl, leafP]
  refine CallT.mk (t := ⟨⟩) hw ?_
  simp (maxSteps := 10000000) only [↓sx, sx, ↓ty, ↓reduceIte, Nat.reduceEqDiff, Nat.reduceBeqDiff, Nat.reduceAdd, Nat.reduceLeDiff, Nat.reduceLT, Nat.reduceMul, Nat.reduceSub, Int.reduceEq, Int.reduceBNe, Int.reduceBEq, ne_eq, not_false_eq_true, pc, ls, bs, and_true, true_and, and_self, Nat.reduceAdd, Nat.le_refl, leafP]
  refine CallT.mk (t := ⟨⟩) hm ?_
  simp (maxSteps := 10000000) only [↓sx, sx, ↓ty, ↓reduceIte, Nat.reduceEqDiff, Nat.reduceBeqDiff, Nat.reduceAdd, Nat.reduceLeDiff, Nat.reduceLT, Nat.reduceMul, Nat.reduceSub, Int.reduceEq, Int.reduceBNe, Int.reduceBEq, ne_eq, not_false_eq_true, pc, ls, bs, and_true, true_and, and_self, Nat.reduceAdd, Nat.le_refl, leafP]
  refine CallT.mk (t := ⟨⟩) hp ?_
  simp (maxSteps := 10000000) only [↓sx, sx, ↓ty, ↓reduceIte, Nat.reduceEqDiff, Nat.reduceBeqDiff, Nat.reduceAdd, Nat.reduceLeDiff, Nat.reduceLT, Nat.reduceMul, Nat.reduceSub, Int.reduceEq, Int.reduceBNe, Int.reduceBEq, ne_eq, not_false_eq_true, pc, ls, bs, and_true, true_and, and_self, Nat.reduceAdd, Nat.le_refl, leafP]
  refine CallT.mk (t := ⟨⟩) hs ?_
  simp (maxSteps := 10000000) only [↓sx, sx, ↓ty, ↓reduceIte, Nat.reduceEqDiff, Nat.reduceBeqDiff, Nat.reduceAdd, Nat.reduceLeDiff, Nat.reduceLT, Nat.reduceMul, Nat.reduceSub, Int.reduceEq, Int.reduceBNe, Int.reduceBEq, ne_eq, not_false_eq_true, pc, ls, bs, and_true, true_and, and_self, Nat.reduceAdd, Nat.le_refl, leafP]
  refine CallT.mk (t := ⟨⟩) hu ?_
  simp (maxSteps := 10000000) only [↓sx, sx, ↓ty, ↓reduceIte, Nat.reduceEqDiff, Nat.reduceBeqDiff, Nat.reduceAdd, Nat.reduceLeDiff, Nat.reduceLT, Nat.reduceMul, Nat.reduceSub, Int.reduceEq, Int.reduceBNe, Int.reduceBEq, ne_eq, not_false_eq_true, pc, ls, bs, and_true, true_and, and_self, Nat.reduceAdd, Nat.le_refl, leafP, la]
  refine CallT.mk (t := ⟨⟩) hn ?_
  simp (maxSteps := 10000000) only [↓sx, sx, ↓ty, ↓reduceIte, Nat.reduceEqDiff, Nat.reduceBeqDiff, Nat.reduceAdd, Nat.reduceLeDiff, Nat.reduceLT, Nat.reduceMul, Nat.reduceSub, Int.reduceEq, Int.reduceBNe, Int.reduceBEq, ne_eq, not_false_eq_true, pc, ls, bs, and_true, true_and, and_self, Nat.reduceAdd, Nat.le_refl, leafP, la, ag, beq_self_eq_true, w4, Int.reduceAdd, ba_beq]
  refine CallT.mk (t := ⟨⟩) v1 ?_
  simp (maxSteps := 10000000) only [↓sx, sx, ↓ty, ↓reduceIte, Nat.reduceEqDiff, Nat.reduceBeqDiff, Nat.reduceAdd, Nat.reduceLeDiff, Nat.reduceLT, Nat.reduceMul, Nat.reduceSub, Int.reduceEq, Int.reduceBNe, Int.reduceBEq, ne_eq, not_false_eq_true, pc, ls, bs, and_true, true_and, and_self, Nat.reduceAdd, Nat.le_refl, leafP, la]
  refine CallT.mk (t := ⟨⟩) v2 ?_
  simp (maxSteps := 10000000) only [↓sx, sx, ↓ty, ↓reduceIte, Nat.reduceEqDiff, Nat.reduceBeqDiff, Nat.reduceAdd, Nat.reduceLeDiff, Nat.reduceLT, Nat.reduceMul, Nat.reduceSub, Int.reduceEq, Int.reduceBNe, Int.reduceBEq, ne_eq, not_false_eq_true, pc, ls, bs, and_true, true_and, and_self, Nat.reduceAdd, Nat.le_refl, leafP, la]
  refine CallT.mk (t := ⟨⟩) v3 ?_
  simp (maxSteps := 10000000) only [↓sx, sx, ↓ty, ↓reduceIte, Nat.reduceEqDiff, Nat.reduceBeqDiff, Nat.reduceAdd, Nat.reduceLeDiff, Nat.reduceLT, Nat.reduceMul, Nat.reduceSub, Int.reduceEq, Int.reduceBNe, Int.reduceBEq, ne_eq, not_false_eq_true, pc, ls, bs, and_true, true_and, and_self, Nat.reduceAdd, Nat.le_refl, leafP, la]
end Go.Proofs.YtfbmphbmidlijaaGreatDoor.S
namespace Go.Proofs.YtfbmphbmidlijaaGreatDoor.S
open Go Go.Sx Go.RowKit Gb Go.Shelf
set_option maxRecDepth 100000 in
theorem floorq_n (l : List UInt8) (hl : l.length < 90000) : Meets Tryz.prog Gd 30 [strP l] (rfloorP l) := by
  refine meets_of_vc (Y := {}) (N := 16) (rs := [.tmp 2, .tmp 3]) mix tk gd Tryz.func30 rfl (by kernel_rfl) rfl rfl (by simp) (by kernel_rfl) ?_
  have f1 := from3_n gd l (by omega)
  unfold rfloorP
  cases h : isRat l with
  | false =>
    rw [h] at f1
    simp only [Bool.false_eq_true, if_false] at f1 ⊢
    simp (maxSteps := 10000000) only [↓sx, sx, ↓ty, ↓reduceIte, Nat.reduceEqDiff, Nat.reduceBeqDiff, Nat.reduceAdd, Nat.reduceLeDiff, Nat.reduceLT, Nat.reduceMul, Nat.reduceSub, Int.reduceEq, Int.reduceBNe, Int.reduceBEq, ne_eq, not_false_eq_true, pc, ls, bs, and_true, true_and, and_self, Nat.reduceAdd, Nat.le_refl, leafP, pj]
    refine CallT.mk f1 ?_
    simp (maxSteps := 10000000) only [↓sx, sx, ↓ty, ↓reduceIte, Nat.reduceEqDiff, Nat.reduceBeqDiff, Nat.reduceAdd, Nat.reduceLeDiff, Nat.reduceLT, Nat.reduceMul, Nat.reduceSub, Int.reduceEq, Int.reduceBNe, Int.reduceBEq, ne_eq, not_false_eq_true, pc, ls, bs, and_true, true_and, and_self, Nat.reduceAdd, Nat.le_refl, leafP, pj]
  | true =>
    rw [h] at f1
    simp only [if_true] at f1 ⊢
    have s1 := sz_ok h hl
    have lf := Lw_floor s1
    simp (maxSteps := 10000000) only [↓sx, sx, ↓ty, ↓reduceIte, Nat.reduceEqDiff, Nat.reduceBeqDiff, Nat.reduceAdd, Nat.reduceLeDiff, Nat.reduceLT, Nat.reduceMul, Nat.reduceSub, Int.reduceEq, Int.reduceBNe, Int.reduceBEq, ne_eq, not_false_eq_true, pc, ls, bs, and_true, true_and, and_self, Nat.reduceAdd, Nat.le_refl, leafP, pj]
    refine CallT.mk f1 ?_
    simp (maxSteps := 10000000) only [↓sx, sx, ↓ty, ↓reduceIte, Nat.reduceEqDiff, Nat.reduceBeqDiff, Nat.reduceAdd, Nat.reduceLeDiff, Nat.reduceLT, Nat.reduceMul, Nat.reduceSub, Int.reduceEq, Int.reduceBNe, Int.reduceBEq, ne_eq, not_false_eq_true, pc, ls, bs, and_true, true_and, and_self, Nat.reduceAdd, Nat.le_refl, leafP, pj]
    refine CallT.mk (whole3_n gd _ (s1.mono (by omega))) ?_
    simp (maxSteps := 10000000) only [↓sx, sx, ↓ty, ↓reduceIte, Nat.reduceEqDiff, Nat.reduceBeqDiff, Nat.reduceAdd, Nat.reduceLeDiff, Nat.reduceLT, Nat.reduceMul, Nat.reduceSub, Int.reduceEq, Int.reduceBNe, Int.reduceBEq, ne_eq, not_false_eq_true, pc, ls, bs, and_true, true_and, and_self, Nat.reduceAdd, Nat.le_refl, leafP, pj]
    refine CallT.mk (to2_n gd _ (by omega)) ?_
    simp (maxSteps := 10000000) only [↓sx, sx, ↓ty, ↓reduceIte, Nat.reduceEqDiff, Nat.reduceBeqDiff, Nat.reduceAdd, Nat.reduceLeDiff, Nat.reduceLT, Nat.reduceMul, Nat.reduceSub, Int.reduceEq, Int.reduceBNe, Int.reduceBEq, ne_eq, not_false_eq_true, pc, ls, bs, and_true, true_and, and_self, Nat.reduceAdd, Nat.le_refl, leafP, pj]
end Go.Proofs.YtfbmphbmidlijaaGreatDoor.S
namespace Gb
open Go Go.RowKit Go.Sx
theorem l60_no {l : List (List UInt8)} (h : l.any long60 = false) : ∀ a ∈ l, a.length ≤ 60 := fun a ha => by
  have h1 : ¬ long60 a = true := List.any_eq_false.1 h a ha
  unfold long60 at h1
  simpa using h1
end Gb
namespace Go.Proofs.YtfbmphbmidlijaaGreatDoor.S
open Go Go.Sx Go.RowKit Gb Go.Shelf
end Go.Proofs.YtfbmphbmidlijaaGreatDoor.S
namespace Gb
open Go Go.RowKit Go.Sx
theorem q_int (z : Int) : qP (z : Rat) = .agg [.val (.bool (decide (z < 0))), nP z.natAbs, nP 1] := by unfold qP; rw [Rat.num_intCast, Rat.den_intCast]
end Gb
namespace Go.Proofs.YtfbmphbmidlijaaGreatDoor.S
open Go Go.Sx Go.RowKit Gb Go.Shelf
end Go.Proofs.YtfbmphbmidlijaaGreatDoor.S
namespace Go.Proofs.YtfbmphbmidlijaaGreatDoor.S
open Go Go.Sx Go.RowKit Gb Go.Shelf
end Go.Proofs.YtfbmphbmidlijaaGreatDoor.S
namespace Gb
open Go Go.RowKit Go.Sx
end Gb
namespace Go.Proofs.YtfbmphbmidlijaaGreatDoor.S
open Go Go.Sx Go.RowKit Gb Go.Shelf
end Go.Proofs.YtfbmphbmidlijaaGreatDoor.S
namespace Gb
open Go Go.RowKit Go.Sx
end Gb
namespace Go.Proofs.YtfbmphbmidlijaaGreatDoor.S
open Go Go.Sx Go.RowKit Gb Go.Shelf
end Go.Proofs.YtfbmphbmidlijaaGreatDoor.S
