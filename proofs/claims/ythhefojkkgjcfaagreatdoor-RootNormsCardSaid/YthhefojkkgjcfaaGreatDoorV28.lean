/- A part of a proof; the last text of this claim says of what. -/
import Derived.Test.YthhefojkkgjcfaaGreatDoorV27
import Derived.Lib.Repeat
set_option linter.unusedVariables false
set_option linter.unusedSimpArgs false
set_option linter.unusedSectionVars false
namespace Gb
open Go Go.RowKit Go.Sx
theorem rep_zeros : ∀ c, Lib.repeatL [48] c = List.replicate c 48
  | 0 => rfl
  | c + 1 => by rw [Lib.repeatL, rep_zeros c]; rfl
theorem natOf_ten (c : Nat) : natOf (49 :: List.replicate c 48) = 10 ^ c := by
  rw [show (49 : UInt8) :: List.replicate c 48 = [49] ++ List.replicate c 48 from rfl, natOf_append, natOf_zeros, List.length_replicate]
  simp [natOf]
theorem Lw_ten (c : Nat) : Lw (10 ^ c) ≤ c / 9 + 1 := by
  refine Lw_le ?_
  rw [show (1000000000 : Nat) = 10 ^ 9 from rfl, ← Nat.pow_mul]
  exact Nat.pow_lt_pow_right (by omega) (by omega)
end Gb
namespace Go.Proofs.YthhefojkkgjcfaaGreatDoor.S
open Go Go.Sx Go.RowKit Gb Go.Shelf
theorem repeat_n (l : List UInt8) (c : Nat) (hc : l.length * c ≤ 140737488355328) (hc2 : c ≤ 9223372036854775807) : Meets Tryz.prog Gd 79 [strP l, iP c] (strP (Lib.repeatL l c)) := by
  refine meets_val [.string ⟨l.toArray⟩, .int .i64 c] (.string ⟨(Lib.repeatL l c).toArray⟩) (enters_of Tryz.func79 (by kernel_rfl) rfl) ?_ ?_
  · intro B w
    simp [strP_c, RepP]
  · intro w hw
    have := Tryz.strings_Repeat ⟨l.toArray⟩ c w hc2 (by simpa [ByteArray.size] using hc)
    exact this
set_option maxRecDepth 100000 in
set_option maxHeartbeats 4000000 in
theorem nroot_n (n r : Nat) (hn : Lw n < 40000) (hr : isRt n r) : Meets Tryz.prog Gd 40 [dP n] (.tup [dP r, iP 0]) := by
  refine meets_of_vc (Y := {}) (N := 45) (rs := [.tmp 2, .tmp 3]) mix tk gd Tryz.func40 rfl (by kernel_rfl) rfl rfl (by simp) (by kernel_rfl) ?_
  have e1 : dP n = .val (.string ⟨(Lib.decDigits n).toArray⟩) := rfl
  rw [e1]
  simp (maxSteps := 10000000) only [↓sx, sx, ↓ty, ↓reduceIte, Nat.reduceEqDiff, Nat.reduceBeqDiff, Nat.reduceAdd, Nat.reduceLeDiff, Nat.reduceLT, Nat.reduceMul, Nat.reduceSub, Int.reduceEq, Int.reduceBNe, Int.reduceBEq, ne_eq, not_false_eq_true, pc, ls, bs, and_true, true_and, and_self, Nat.reduceAdd, Nat.le_refl, leafP]
  refine CallT.mk (t := ⟨⟩) (nvalid_d n (by omega)) ?_
  simp (maxSteps := 10000000) only [↓sx, sx, ↓ty, ↓reduceIte, Nat.reduceEqDiff, Nat.reduceBeqDiff, Nat.reduceAdd, Nat.reduceLeDiff, Nat.reduceLT, Nat.reduceMul, Nat.reduceSub, Int.reduceEq, Int.reduceBNe, Int.reduceBEq, ne_eq, not_false_eq_true, pc, ls, bs, and_true, true_and, and_self, Nat.reduceAdd, Nat.le_refl, leafP]
  refine CallT.mk (t := ⟨⟩) (nread_d n (by omega)) ?_
  rw [show nP n = .sl (Lw n) ((wl n).map wv) from rfl]
  by_cases h0 : n = 0
  · subst h0
    have : r = 0 := hr.uniq ⟨by omega, by omega⟩
    subst this
    have d0 : ((Lw 0 : Nat) : Int) = 0 := by rw [Lw_zero]; rfl
    simp (maxSteps := 10000000) only [↓sx, sx, ↓ty, ↓reduceIte, Nat.reduceEqDiff, Nat.reduceBeqDiff, Nat.reduceAdd, Nat.reduceLeDiff, Nat.reduceLT, Nat.reduceMul, Nat.reduceSub, Int.reduceEq, Int.reduceBNe, Int.reduceBEq, ne_eq, not_false_eq_true, pc, ls, bs, and_true, true_and, and_self, Nat.reduceAdd, Nat.le_refl, leafP, d0, dec_0]
  · have d0 : ((Lw n : Int) == 0) = false := by
      rw [beq_eq_false_iff_ne]
      intro h
      exact h0 ((Lw_zero_iff n).1 (by omega))
    have hlen := dec_len n
    obtain ⟨L, hL⟩ : ∃ L, L = (Lib.decDigits n).length := ⟨_, rfl⟩
    rw [← hL] at hlen
    have w1 : IntKind.i64.wrap ((L : Int) + 1) = ((L + 1 : Nat) : Int) := by rw [i64_id] <;> omega
    have w2 : IntKind.i64.wrap (((L + 1 : Nat) : Int).tdiv 2) = (((L + 1) / 2 : Nat) : Int) := by rw [tdiv_pos (by omega), i64_id] <;> omega
    simp (maxSteps := 10000000) only [↓sx, sx, ↓ty, ↓reduceIte, Nat.reduceEqDiff, Nat.reduceBeqDiff, Nat.reduceAdd, Nat.reduceLeDiff, Nat.reduceLT, Nat.reduceMul, Nat.reduceSub, Int.reduceEq, Int.reduceBNe, Int.reduceBEq, ne_eq, not_false_eq_true, pc, ls, bs, and_true, true_and, and_self, Nat.reduceAdd, Nat.le_refl, leafP, d0, List.size_toArray, ← hL, w1, w2]
    have hc : (L + 1) / 2 < 400000 := by omega
    have hX : n < (10 ^ ((L + 1) / 2) + 1) * (10 ^ ((L + 1) / 2) + 1) := by
      have h1 := natOf_lt (Lib.decDigits n) (dec_isD n)
      rw [natOf_dec, ← hL] at h1
      have h2 : 10 ^ L ≤ 10 ^ ((L + 1) / 2) * 10 ^ ((L + 1) / 2) := by rw [← Nat.pow_add]; exact Nat.pow_le_pow_right (by omega) (by omega)
      have h3 : 10 ^ ((L + 1) / 2) * 10 ^ ((L + 1) / 2) ≤ (10 ^ ((L + 1) / 2) + 1) * (10 ^ ((L + 1) / 2) + 1) := Nat.mul_le_mul (by omega) (by omega)
      omega
    have hxL := Lw_ten ((L + 1) / 2)
    have hxp : 0 < 10 ^ ((L + 1) / 2) := Nat.pow_pos (by omega)
    have rd := nread_n (49 :: List.replicate ((L + 1) / 2) 48) (by
      intro c hc
      rcases List.mem_cons.1 hc with rfl | hc
      · decide
      · rw [(List.mem_replicate.1 hc).2]; decide) (by simp; omega)
    rw [natOf_ten] at rd
    generalize 10 ^ ((L + 1) / 2) = X at *
    refine CallT.mk (t := ⟨⟩) (repeat_n [48] ((L + 1) / 2) (by simp; omega) (by omega)) ?_
    rw [rep_zeros]
    simp (maxSteps := 10000000) only [↓sx, sx, ↓ty, ↓reduceIte, Nat.reduceEqDiff, Nat.reduceBeqDiff, Nat.reduceAdd, Nat.reduceLeDiff, Nat.reduceLT, Nat.reduceMul, Nat.reduceSub, Int.reduceEq, Int.reduceBNe, Int.reduceBEq, ne_eq, not_false_eq_true, pc, ls, bs, and_true, true_and, and_self, Nat.reduceAdd, Nat.le_refl, leafP, ba_app, List.cons_append, List.nil_append]
    refine ⟨by simp; omega, CallT.mk (t := ⟨⟩) rd ?_⟩
    simp (maxSteps := 10000000) only [↓sx, sx, ↓ty, ↓reduceIte, Nat.reduceEqDiff, Nat.reduceBeqDiff, Nat.reduceAdd, Nat.reduceLeDiff, Nat.reduceLT, Nat.reduceMul, Nat.reduceSub, Int.reduceEq, Int.reduceBNe, Int.reduceBEq, ne_eq, not_false_eq_true, pc, ls, bs, and_true, true_and, and_self, Nat.reduceAdd, Nat.le_refl, leafP]
    refine loopK_of (fun x : Nat => [(2, .p (.val (.string ⟨#[]⟩))), (4, .p (nP n)), (5, .p (nP x))]) (fun _ => []) (fun _ => []) (fun x => 0 < x ∧ Lw x < 100000 ∧ n < (x + 1) * (x + 1)) (fun x => x) X ⟨hxp, by omega, hX⟩ ?_ ?_
    · simp (maxSteps := 10000000) only [isE_nil, is_cons, bo_p, bo_box, bo_orow, bo_rowp, any_cons', all_cons', all_nil', Bool.true_or, Bool.or_true, ↓sx, sx, ↓reduceIte, Nat.reduceEqDiff, Nat.reduceBeqDiff]
      exact ⟨rfl, rfl⟩
    · rintro x ⟨hx0, hxl, hx⟩
      have hq : n / x ≤ n := Nat.div_le_self _ _
      have hql := Lw_mono hq
      have hal := Lw_add x (n / x)
      simp (maxSteps := 10000000) only [↓sx, sx, ↓ty, ↓reduceIte, Nat.reduceEqDiff, Nat.reduceBeqDiff, Nat.reduceAdd, Nat.reduceLeDiff, Nat.reduceLT, Nat.reduceMul, Nat.reduceSub, Int.reduceEq, Int.reduceBNe, Int.reduceBEq, ne_eq, not_false_eq_true, pc, ls, bs, and_true, true_and, and_self, Nat.reduceAdd, Nat.le_refl, leafP]
      refine CallT.mk (t := ⟨⟩) (ndivide_n gd n x (by omega) (by omega) hx0) ?_
      simp (maxSteps := 10000000) only [↓sx, sx, ↓ty, ↓reduceIte, Nat.reduceEqDiff, Nat.reduceBeqDiff, Nat.reduceAdd, Nat.reduceLeDiff, Nat.reduceLT, Nat.reduceMul, Nat.reduceSub, Int.reduceEq, Int.reduceBNe, Int.reduceBEq, ne_eq, not_false_eq_true, pc, ls, bs, and_true, true_and, and_self, Nat.reduceAdd, Nat.le_refl, leafP]
      refine CallT.mk (t := ⟨⟩) (nplus_n gd x (n / x) (by omega) (by omega)) ?_
      simp (maxSteps := 10000000) only [↓sx, sx, ↓ty, ↓reduceIte, Nat.reduceEqDiff, Nat.reduceBeqDiff, Nat.reduceAdd, Nat.reduceLeDiff, Nat.reduceLT, Nat.reduceMul, Nat.reduceSub, Int.reduceEq, Int.reduceBNe, Int.reduceBEq, ne_eq, not_false_eq_true, pc, ls, bs, and_true, true_and, and_self, Nat.reduceAdd, Nat.le_refl, leafP]
      refine CallT.mk (t := ⟨⟩) (nby_n gd (x + n / x) 2 (by omega) (by omega) (by omega)) ?_
      have hnl := Lw_mono (Nat.div_le_self (x + n / x) 2)
      simp (maxSteps := 10000000) only [↓sx, sx, ↓ty, ↓reduceIte, Nat.reduceEqDiff, Nat.reduceBeqDiff, Nat.reduceAdd, Nat.reduceLeDiff, Nat.reduceLT, Nat.reduceMul, Nat.reduceSub, Int.reduceEq, Int.reduceBNe, Int.reduceBEq, ne_eq, not_false_eq_true, pc, ls, bs, and_true, true_and, and_self, Nat.reduceAdd, Nat.le_refl, leafP]
      refine CallT.mk (t := ⟨⟩) (ncmp_n gd ((x + n / x) / 2) x (by omega) (by omega)) ?_
      by_cases hst : x ≤ (x + n / x) / 2
      · have d1 : decide (cmpI (((x + n / x) / 2 : Nat) : Int) (x : Int) ≥ 0) = true := by
          apply decide_eq_true
          unfold cmpI
          split
          · omega
          · split <;> omega
        obtain rfl : r = x := hr.uniq (newton_stop hx0 hx hst)
        simp (maxSteps := 10000000) only [↓sx, sx, ↓ty, ↓reduceIte, Nat.reduceEqDiff, Nat.reduceBeqDiff, Nat.reduceAdd, Nat.reduceLeDiff, Nat.reduceLT, Nat.reduceMul, Nat.reduceSub, Int.reduceEq, Int.reduceBNe, Int.reduceBEq, ne_eq, not_false_eq_true, pc, ls, bs, and_true, true_and, and_self, Nat.reduceAdd, Nat.le_refl, leafP, d1]
        refine CallT.mk (t := ⟨⟩) (text_n r (by omega)) ?_
        simp (maxSteps := 10000000) only [↓sx, sx, ↓ty, ↓reduceIte, Nat.reduceEqDiff, Nat.reduceBeqDiff, Nat.reduceAdd, Nat.reduceLeDiff, Nat.reduceLT, Nat.reduceMul, Nat.reduceSub, Int.reduceEq, Int.reduceBNe, Int.reduceBEq, ne_eq, not_false_eq_true, pc, ls, bs, and_true, true_and, and_self, Nat.reduceAdd, Nat.le_refl, leafP]
      · have d1 : decide (cmpI (((x + n / x) / 2 : Nat) : Int) (x : Int) ≥ 0) = false := by
          apply decide_eq_false
          unfold cmpI
          split
          · omega
          · split <;> omega
        simp (maxSteps := 10000000) only [↓sx, sx, ↓ty, ↓reduceIte, Nat.reduceEqDiff, Nat.reduceBeqDiff, Nat.reduceAdd, Nat.reduceLeDiff, Nat.reduceLT, Nat.reduceMul, Nat.reduceSub, Int.reduceEq, Int.reduceBNe, Int.reduceBEq, ne_eq, not_false_eq_true, pc, ls, bs, and_true, true_and, and_self, Nat.reduceAdd, Nat.le_refl, leafP, d1]
        refine NextK.mk ((x + n / x) / 2) (by omega) ⟨newton_pos (by omega) hx0, Nat.lt_of_le_of_lt (Lw_mono (Nat.le_of_not_le hst)) hxl, newton_ge hx0⟩ ?_
        simp (maxSteps := 10000000) only [isE_nil, is_cons, bo_p, bo_box, bo_orow, bo_rowp, any_cons', all_cons', all_nil', Bool.true_or, Bool.or_true, ↓sx, sx, ↓reduceIte, Nat.reduceEqDiff, Nat.reduceBeqDiff]
        try rfl
end Go.Proofs.YthhefojkkgjcfaaGreatDoor.S
namespace Gb
open Go Go.RowKit Go.Sx
theorem Lw_root {a o : Nat} (h : o * o ≤ a) : Lw o ≤ Lw a := by
  by_cases h0 : o = 0
  · subst h0; rw [Lw_zero]; omega
  · exact Lw_mono (Nat.le_trans (Nat.le_mul_of_pos_right o (by omega)) h)
theorem wl_ten (i : Nat) : wl (10 ^ i) = List.replicate (i / 9) 0 ++ wl (10 ^ (i % 9)) := by
  induction i using Nat.strongRecOn with
  | ind i ih =>
    by_cases h : i < 9
    · rw [Nat.div_eq_of_lt h, Nat.mod_eq_of_lt h]; rfl
    · have e : 10 ^ i = 1000000000 * 10 ^ (i - 9) := by
        rw [show (1000000000 : Nat) = 10 ^ 9 from rfl, ← Nat.pow_add]; congr 1; omega
      have hp : 0 < 10 ^ i := Nat.pow_pos (by omega)
      rw [wl_pos (by omega), show 10 ^ i % 1000000000 = 0 by rw [e]; exact Nat.mul_mod_right _ _, show 10 ^ i / 1000000000 = 10 ^ (i - 9) by rw [e]; exact Nat.mul_div_cancel_left _ (by omega), ih (i - 9) (by omega)]
      rw [show i / 9 = (i - 9) / 9 + 1 by omega, show i % 9 = (i - 9) % 9 by omega, List.replicate_succ]
      rfl
end Gb
namespace Go.Proofs.YthhefojkkgjcfaaGreatDoor.S
open Go Go.Sx Go.RowKit Gb
variable {G : World → Prop} (hG : ∀ w w' : World, G w → Below w.heap.size w w' → G w')
include hG
set_option maxRecDepth 100000 in
set_option maxHeartbeats 4000000 in
theorem power_n (k : Nat) (hk : k < 1000) : Meets Tryz.prog G 105 [nP 10, iP k] (nP (10 ^ k)) := by
  refine meets_of_vc (Y := {}) (N := 17) (rs := [.tmp 4]) mix tk hG Tryz.func105 rfl (by kernel_rfl) rfl rfl (by simp) (by kernel_rfl) ?_
  simp (maxSteps := 10000000) only [↓sx, sx, ↓ty, ↓reduceIte, Nat.reduceEqDiff, Nat.reduceBeqDiff, Nat.reduceAdd, Nat.reduceLeDiff, Nat.reduceLT, Nat.reduceMul, Nat.reduceSub, Int.reduceEq, Int.reduceBNe, Int.reduceBEq, ne_eq, not_false_eq_true, pc, ls, bs, and_true, true_and, and_self, Nat.reduceAdd, Nat.le_refl, leafP]
  refine CallT.mk (t := ⟨⟩) (small_n hG 1 (by omega)) ?_
  simp (maxSteps := 10000000) only [↓sx, sx, ↓ty, ↓reduceIte, Nat.reduceEqDiff, Nat.reduceBeqDiff, Nat.reduceAdd, Nat.reduceLeDiff, Nat.reduceLT, Nat.reduceMul, Nat.reduceSub, Int.reduceEq, Int.reduceBNe, Int.reduceBEq, ne_eq, not_false_eq_true, pc, ls, bs, and_true, true_and, and_self, Nat.reduceAdd, Nat.le_refl, leafP]
  refine loopK_of (fun i : Nat => [(0, .p (nP 10)), (1, .p (iP k)), (5, .p (nP (10 ^ i))), (6, .p (.val (.int .i64 (i : Nat))))]) (fun _ => []) (fun _ => []) (fun i => i ≤ k) (fun i => k - i) 0 (Nat.zero_le _) ?_ ?_
  · simp (maxSteps := 10000000) only [isE_nil, is_cons, bo_p, bo_box, bo_orow, bo_rowp, any_cons', all_cons', all_nil', Bool.true_or, Bool.or_true, ↓sx, sx, ↓reduceIte, Nat.reduceEqDiff, Nat.reduceBeqDiff]
    try trivial
  · intro i hi
    have hl := Lw_ten i
    have h10 : Lw 10 ≤ 1 := Lw_le (by decide)
    by_cases hil : i < k
    · have e1 : decide ((i : Int) < (k : Int)) = true := by simp; omega
      simp (maxSteps := 10000000) only [↓sx, sx, ↓ty, ↓reduceIte, Nat.reduceEqDiff, Nat.reduceBeqDiff, Nat.reduceAdd, Nat.reduceLeDiff, Nat.reduceLT, Nat.reduceMul, Nat.reduceSub, Int.reduceEq, Int.reduceBNe, Int.reduceBEq, ne_eq, not_false_eq_true, pc, ls, bs, and_true, true_and, and_self, Nat.reduceAdd, Nat.le_refl, leafP, e1]
      refine CallT.mk (t := ⟨⟩) (times_n hG (10 ^ i) 10 (by omega) (by omega)) ?_
      simp (maxSteps := 10000000) only [↓sx, sx, ↓ty, ↓reduceIte, Nat.reduceEqDiff, Nat.reduceBeqDiff, Nat.reduceAdd, Nat.reduceLeDiff, Nat.reduceLT, Nat.reduceMul, Nat.reduceSub, Int.reduceEq, Int.reduceBNe, Int.reduceBEq, ne_eq, not_false_eq_true, pc, ls, bs, and_true, true_and, and_self, Nat.reduceAdd, Nat.le_refl, leafP]
      refine NextK.mk (i + 1) (by omega) (by omega) ?_
      simp (maxSteps := 10000000) only [isE_nil, is_cons, bo_p, bo_box, bo_orow, bo_rowp, any_cons', all_cons', all_nil', Bool.true_or, Bool.or_true, ↓sx, sx, ↓reduceIte, Nat.reduceEqDiff, Nat.reduceBeqDiff]
      rw [i64_id (by omega) (by omega)]
      try trivial
    · obtain rfl : i = k := by omega
      have e1 : decide ((i : Int) < (i : Int)) = false := by simp
      simp (maxSteps := 10000000) only [↓sx, sx, ↓ty, ↓reduceIte, Nat.reduceEqDiff, Nat.reduceBeqDiff, Nat.reduceAdd, Nat.reduceLeDiff, Nat.reduceLT, Nat.reduceMul, Nat.reduceSub, Int.reduceEq, Int.reduceBNe, Int.reduceBEq, ne_eq, not_false_eq_true, pc, ls, bs, and_true, true_and, and_self, Nat.reduceAdd, Nat.le_refl, leafP, e1]
end Go.Proofs.YthhefojkkgjcfaaGreatDoor.S
namespace Gb
open Go Go.RowKit Go.Sx
theorem rep_w0 : ∀ k, rep k [.val (.int .u32 0)] = (List.replicate k (0 : Int)).map wv
  | 0 => rfl
  | k + 1 => by
    have := rep_w0 k
    unfold rep at this ⊢
    rw [List.replicate_succ, List.replicate_succ, List.flatten_cons, this]; rfl
theorem ten_nP (i : Nat) : PV.sl (i / 9 + (wl (10 ^ (i % 9))).length) (rep (i / 9) [.val (.int .u32 0)] ++ (wl (10 ^ (i % 9))).map wv) = nP (10 ^ i) := by
  rw [nP_c, wl_ten i, rep_w0, List.map_append, List.length_append, List.length_replicate]
theorem u32_nat {n : Nat} (h : n < 4294967296) : IntKind.u32.wrap (n : Int) = (n : Int) := u32_id (by omega) (by omega)
theorem cmpI_pos {q a : Nat} : cmpI (q : Int) (a : Int) > 0 ↔ q > a := by unfold cmpI; split <;> (try split) <;> omega
theorem floor_start (a : Nat) : a < 10 ^ ((Lw a + 1) / 2 * 9 + 1) * 10 ^ ((Lw a + 1) / 2 * 9 + 1) := by
  refine Nat.lt_of_lt_of_le (Lw_high a) ?_
  rw [← Nat.pow_add]
  exact Nat.pow_le_pow_right (by omega) (by omega)
end Gb
namespace Go.Proofs.YthhefojkkgjcfaaGreatDoor.S
open Go Go.Sx Go.RowKit Gb
variable {G : World → Prop} (hG : ∀ w w' : World, G w → Below w.heap.size w w' → G w')
include hG
set_option maxRecDepth 100000 in
set_option maxHeartbeats 8000000 in
theorem floor1_n (a r : Nat) (ha : Lw a < 10000) (hr : isRt a r) : Meets Tryz.prog G 47 [nP a] (nP r) := by
  refine meets_of_vc (Y := { em := [67] }) (N := 39) (rs := [.tmp 2]) mix tk hG Tryz.func47 rfl (by kernel_rfl) rfl rfl (by simp) (by kernel_rfl) ?_
  have w1 : IntKind.i64.wrap ((Lw a : Int) + 1) = ((Lw a + 1 : Nat) : Int) := by rw [i64_id] <;> omega
  have w2 : IntKind.i64.wrap (((Lw a + 1 : Nat) : Int).tdiv 2) = (((Lw a + 1) / 2 : Nat) : Int) := by rw [tdiv_pos (by omega), i64_id] <;> omega
  have w3 : IntKind.i64.wrap ((((Lw a + 1) / 2 : Nat) : Int) * 9) = (((Lw a + 1) / 2 * 9 : Nat) : Int) := by rw [i64_id] <;> omega
  rw [show nP a = .sl (Lw a) ((wl a).map wv) from rfl]
  simp (maxSteps := 10000000) only [↓sx, sx, ↓ty, ↓reduceIte, Nat.reduceEqDiff, Nat.reduceBeqDiff, Nat.reduceAdd, Nat.reduceLeDiff, Nat.reduceLT, Nat.reduceMul, Nat.reduceSub, Int.reduceEq, Int.reduceBNe, Int.reduceBEq, ne_eq, not_false_eq_true, pc, ls, bs, and_true, true_and, and_self, Nat.reduceAdd, Nat.le_refl, leafP, w1, w2, w3]
  refine loopK_of (fun s : Nat × Nat => [(0, .p (nP a)), (3, .p (nP s.2)), (4, .p (.val (.int .i64 ((s.1 : Int) - 1))))]) (fun _ => []) (fun _ => []) (fun s => s.1 ≤ (Lw a + 1) / 2 * 9 + 1 ∧ s.2 * s.2 ≤ a ∧ a < (s.2 + 10 ^ s.1) * (s.2 + 10 ^ s.1)) (fun s => s.1) ((Lw a + 1) / 2 * 9 + 1, 0)
    ⟨Nat.le_refl _, by simp, by simpa using floor_start a⟩ ?_ ?_
  · simp (maxSteps := 10000000) only [isE_nil, is_cons, bo_p, bo_box, bo_orow, bo_rowp, any_cons', all_cons', all_nil', Bool.true_or, Bool.or_true, ↓sx, sx, ↓reduceIte, Nat.reduceEqDiff, Nat.reduceBeqDiff]
    refine ⟨rfl, by rw [show nP 0 = .sl (wl 0).length ((wl 0).map wv) from rfl, wl_zero]; rfl, by congr 4; omega⟩
  · rintro ⟨k, out⟩ ⟨hk, h1, h2⟩
    dsimp only at hk h1 h2 ⊢
    cases k with
    | zero =>
      have e1 : decide (((0 : Nat) : Int) - 1 ≥ 0) = false := by decide
      obtain rfl : r = out := hr.uniq ⟨h1, by simpa using h2⟩
      simp (maxSteps := 10000000) only [↓sx, sx, ↓ty, ↓reduceIte, Nat.reduceEqDiff, Nat.reduceBeqDiff, Nat.reduceAdd, Nat.reduceLeDiff, Nat.reduceLT, Nat.reduceMul, Nat.reduceSub, Int.reduceEq, Int.reduceBNe, Int.reduceBEq, ne_eq, not_false_eq_true, pc, ls, bs, and_true, true_and, and_self, Nat.reduceAdd, Nat.le_refl, leafP, e1]
      try rfl
    | succ i =>
      have e0 : (((i + 1 : Nat) : Int) - 1) = (i : Int) := by omega
      have e1 : decide ((i : Int) ≥ 0) = true := by simp
      have q1 : IntKind.i64.wrap ((i : Int).tdiv 9) = ((i / 9 : Nat) : Int) := by rw [tdiv_pos (by omega), i64_id] <;> omega
      have q2 : (i : Int).tmod 9 = ((i % 9 : Nat) : Int) := by rw [tmod_pos (by omega)]; omega
      rw [e0]
      simp (maxSteps := 10000000) only [↓sx, sx, ↓ty, ↓reduceIte, Nat.reduceEqDiff, Nat.reduceBeqDiff, Nat.reduceAdd, Nat.reduceLeDiff, Nat.reduceLT, Nat.reduceMul, Nat.reduceSub, Int.reduceEq, Int.reduceBNe, Int.reduceBEq, ne_eq, not_false_eq_true, pc, ls, bs, and_true, true_and, and_self, Nat.reduceAdd, Nat.le_refl, leafP, e1, q1, q2]
      refine ⟨by omega, ?_⟩
      have l10 : Lw (10 ^ (i % 9)) ≤ 1 := Lw_le (Nat.lt_of_le_of_lt (Nat.pow_le_pow_right (by omega) (by omega : i % 9 ≤ 8)) (by decide))
      have p10 : 10 ^ (i % 9) < 1000000000 := Nat.lt_of_le_of_lt (Nat.pow_le_pow_right (by omega) (by omega : i % 9 ≤ 8)) (by decide)
      refine CallT.mk (t := ⟨⟩) (small_n hG 10 (by omega)) ?_
      simp (maxSteps := 10000000) only [↓sx, sx, ↓ty, ↓reduceIte, Nat.reduceEqDiff, Nat.reduceBeqDiff, Nat.reduceAdd, Nat.reduceLeDiff, Nat.reduceLT, Nat.reduceMul, Nat.reduceSub, Int.reduceEq, Int.reduceBNe, Int.reduceBEq, ne_eq, not_false_eq_true, pc, ls, bs, and_true, true_and, and_self, Nat.reduceAdd, Nat.le_refl, leafP, q2]
      refine CallT.mk (t := ⟨⟩) (power_n hG (i % 9) (by omega)) ?_
      simp (maxSteps := 10000000) only [↓sx, sx, ↓ty, ↓reduceIte, Nat.reduceEqDiff, Nat.reduceBeqDiff, Nat.reduceAdd, Nat.reduceLeDiff, Nat.reduceLT, Nat.reduceMul, Nat.reduceSub, Int.reduceEq, Int.reduceBNe, Int.reduceBEq, ne_eq, not_false_eq_true, pc, ls, bs, and_true, true_and, and_self, Nat.reduceAdd, Nat.le_refl, leafP]
      refine CallT.mk (t := ⟨⟩) (word_n hG (10 ^ (i % 9)) (by omega)) ?_
      simp (maxSteps := 10000000) only [↓sx, sx, ↓ty, ↓reduceIte, Nat.reduceEqDiff, Nat.reduceBeqDiff, Nat.reduceAdd, Nat.reduceLeDiff, Nat.reduceLT, Nat.reduceMul, Nat.reduceSub, Int.reduceEq, Int.reduceBNe, Int.reduceBEq, ne_eq, not_false_eq_true, pc, ls, bs, and_true, true_and, and_self, Nat.reduceAdd, Nat.le_refl, leafP]
      rw [u32_nat (Nat.lt_trans p10 (by decide))]
      refine CallT.mk (t := ⟨⟩) (small_n hG (10 ^ (i % 9)) (by omega)) ?_
      rw [show nP (10 ^ (i % 9)) = .sl (wl (10 ^ (i % 9))).length ((wl (10 ^ (i % 9))).map wv) from rfl]
      simp (maxSteps := 10000000) only [↓sx, sx, ↓ty, ↓reduceIte, Nat.reduceEqDiff, Nat.reduceBeqDiff, Nat.reduceAdd, Nat.reduceLeDiff, Nat.reduceLT, Nat.reduceMul, Nat.reduceSub, Int.reduceEq, Int.reduceBNe, Int.reduceBEq, ne_eq, not_false_eq_true, pc, ls, bs, and_true, true_and, and_self, Nat.reduceAdd, Nat.le_refl, leafP]
      have hi9 : Lw (10 ^ i) ≤ 6000 := by have := Lw_ten i; omega
      have hw1 : (wl (10 ^ (i % 9))).length = Lw (10 ^ (i % 9)) := rfl
      have hw0 : 0 < Lw (10 ^ (i % 9)) := by
        rcases Nat.eq_zero_or_pos (Lw (10 ^ (i % 9))) with h | h
        · exfalso; have := Lw_high (10 ^ (i % 9)); rw [h] at this; have := Nat.pow_pos (n := i % 9) (show 0 < 10 by omega); rw [Nat.pow_zero] at *; omega
        · exact h
      refine ⟨⟨by omega, by simp [rep], by simp only [maxLen]; omega, by omega⟩, ?_⟩
      refine loopK_of (fun o : Nat => [(0, .p (nP a)), (3, .p (nP o)), (4, .p (.val (.int .i64 (i : Int)))), (5, .p (nP (10 ^ i)))]) (fun _ => []) (fun _ => []) (fun o => o * o ≤ a ∧ a < (o + 10 ^ (i + 1)) * (o + 10 ^ (i + 1))) (fun o => a + 1 - o) out ⟨h1, h2⟩ ?_ ?_
      · simp (maxSteps := 10000000) only [isE_nil, is_cons, bo_p, bo_box, bo_orow, bo_rowp, any_cons', all_cons', all_nil', Bool.true_or, Bool.or_true, ↓sx, sx, ↓reduceIte, Nat.reduceEqDiff, Nat.reduceBeqDiff]
        rw [ten_nP]
      · rintro o ⟨g1, g2⟩
        have lo := Lw_root g1
        simp (maxSteps := 10000000) only [↓sx, sx, ↓ty, ↓reduceIte, Nat.reduceEqDiff, Nat.reduceBeqDiff, Nat.reduceAdd, Nat.reduceLeDiff, Nat.reduceLT, Nat.reduceMul, Nat.reduceSub, Int.reduceEq, Int.reduceBNe, Int.reduceBEq, ne_eq, not_false_eq_true, pc, ls, bs, and_true, true_and, and_self, Nat.reduceAdd, Nat.le_refl, leafP]
        refine CallT.mk (t := ⟨⟩) (plus_n hG o (10 ^ i) (by omega) (by omega)) ?_
        have lp := Lw_add o (10 ^ i)
        simp (maxSteps := 10000000) only [↓sx, sx, ↓ty, ↓reduceIte, Nat.reduceEqDiff, Nat.reduceBeqDiff, Nat.reduceAdd, Nat.reduceLeDiff, Nat.reduceLT, Nat.reduceMul, Nat.reduceSub, Int.reduceEq, Int.reduceBNe, Int.reduceBEq, ne_eq, not_false_eq_true, pc, ls, bs, and_true, true_and, and_self, Nat.reduceAdd, Nat.le_refl, leafP]
        refine CallT.mk (t := ⟨⟩) (times_n hG (o + 10 ^ i) (o + 10 ^ i) (by omega) (by omega)) ?_
        have lt := Lw_mul (o + 10 ^ i) (o + 10 ^ i)
        simp (maxSteps := 10000000) only [↓sx, sx, ↓ty, ↓reduceIte, Nat.reduceEqDiff, Nat.reduceBeqDiff, Nat.reduceAdd, Nat.reduceLeDiff, Nat.reduceLT, Nat.reduceMul, Nat.reduceSub, Int.reduceEq, Int.reduceBNe, Int.reduceBEq, ne_eq, not_false_eq_true, pc, ls, bs, and_true, true_and, and_self, Nat.reduceAdd, Nat.le_refl, leafP]
        refine CallT.mk (t := ⟨⟩) (cmp_n hG ((o + 10 ^ i) * (o + 10 ^ i)) a (by omega) (by omega)) ?_
        simp (maxSteps := 10000000) only [↓sx, sx, ↓ty, ↓reduceIte, Nat.reduceEqDiff, Nat.reduceBeqDiff, Nat.reduceAdd, Nat.reduceLeDiff, Nat.reduceLT, Nat.reduceMul, Nat.reduceSub, Int.reduceEq, Int.reduceBNe, Int.reduceBEq, ne_eq, not_false_eq_true, pc, ls, bs, and_true, true_and, and_self, Nat.reduceAdd, Nat.le_refl, leafP]
        refine vcIf_dec (fun hb => ?_) (fun hb => ?_)
        · have hb := cmpI_pos.1 hb
          refine NextK.mk (i, o) (by omega) ⟨by omega, g1, hb⟩ ?_
          simp (maxSteps := 10000000) only [isE_nil, is_cons, bo_p, bo_box, bo_orow, bo_rowp, any_cons', all_cons', all_nil', Bool.true_or, Bool.or_true, ↓sx, sx, ↓reduceIte, Nat.reduceEqDiff, Nat.reduceBeqDiff]
          rw [i64_id (by omega) (by omega)]
          exact ⟨rfl, rfl, rfl⟩
        · have hb := fun h => hb (cmpI_pos.2 h)
          have hp := Nat.pow_pos (n := i) (show 0 < 10 by omega)
          refine NextK.mk (o + 10 ^ i) ?_ ⟨Nat.le_of_not_lt hb, ?_⟩ ?_
          · have : o < a := by
              refine Nat.lt_of_not_le fun h => hb ?_
              have h1 : a + 1 ≤ o + 10 ^ i := by omega
              have h2 := Nat.mul_le_mul h1 h1
              have h3 : a < (a + 1) * (a + 1) := Nat.lt_of_lt_of_le (by omega) (Nat.le_mul_of_pos_right (a + 1) (by omega))
              omega
            omega
          · exact Nat.lt_of_lt_of_le g2 (Nat.mul_le_mul (by omega) (by omega))
          · simp (maxSteps := 10000000) only [isE_nil, is_cons, bo_p, bo_box, bo_orow, bo_rowp, any_cons', all_cons', all_nil', Bool.true_or, Bool.or_true, ↓sx, sx, ↓reduceIte, Nat.reduceEqDiff, Nat.reduceBeqDiff]
            exact ⟨rfl, rfl⟩
end Go.Proofs.YthhefojkkgjcfaaGreatDoor.S
namespace Go.Proofs.YthhefojkkgjcfaaGreatDoor.S
open Go Go.Sx Go.RowKit Gb Go.Shelf
end Go.Proofs.YthhefojkkgjcfaaGreatDoor.S
namespace Gb
open Go Go.RowKit Go.Sx
end Gb
namespace Go.Proofs.YthhefojkkgjcfaaGreatDoor.S
open Go Go.Sx Go.RowKit Gb Go.Shelf
end Go.Proofs.YthhefojkkgjcfaaGreatDoor.S
namespace Gb
open Go Go.RowKit Go.Sx
end Gb
namespace Go.Proofs.YthhefojkkgjcfaaGreatDoor.S
open Go Go.Sx Go.RowKit Gb Go.Shelf
end Go.Proofs.YthhefojkkgjcfaaGreatDoor.S
namespace Gb
open Go Go.RowKit Go.Sx
def rpartsP (l : List UInt8) : PV := if isRat l then .tup [siP (ratOf l).num, dP (ratOf l).den, iP 0] else .tup [strP [], strP [], iP 1]
theorem rcmp_zero {l : List UInt8} (h : isRat l = true) : rcmpP l [48] = .tup [iP (ratOf l).num.sign, iP 0] := by
  unfold rcmpP; rw [h, isRat_0, ratOf_0, show ratOf l - 0 = ratOf l by grind]; rfl
def strsP (L : List (List UInt8)) : List PV := L.map strP
theorem strs_get {A : List (List UInt8)} {i : Nat} (h : i < A.length) : (strsP A)[i]? = some (.val (.string ⟨(A.getD i []).toArray⟩)) := by
  unfold strsP; rw [List.getElem?_map, List.getD_eq_getElem?_getD, List.getElem?_eq_getElem h]; rfl
theorem getD_mem {A : List (List UInt8)} {i : Nat} (h : i < A.length) : A.getD i [] ∈ A := by
  rw [List.getD_eq_getElem?_getD, List.getElem?_eq_getElem h]; exact List.getElem_mem _
theorem take_all {A : List (List UInt8)} {i : Nat} {p : List UInt8 → Prop} (h : i < A.length) (h1 : ∀ x ∈ A.take i, p x) (h2 : p (A.getD i [])) : ∀ x ∈ A.take (i + 1), p x := by
  intro x hx
  rw [List.take_succ_eq_append_getElem h, show A[i] = A.getD i [] by rw [List.getD_eq_getElem?_getD, List.getElem?_eq_getElem h]; rfl] at hx
  rcases List.mem_append.1 hx with hx | hx
  · exact h1 x hx
  · obtain rfl := List.mem_singleton.1 hx; exact h2
def checkI (L U : List (List UInt8)) (n : Int) : Int := if (L ++ U).all isRat then (if U.any (fun x => decide (ratOf x < 0)) then 2 else if n < 1 ∨ n > 1000000000 then 2 else 0) else 1
end Gb
namespace Go.Proofs.YthhefojkkgjcfaaGreatDoor.S
open Go Go.Sx Go.RowKit Gb Go.Shelf
set_option maxRecDepth 100000 in
theorem parts_n (l : List UInt8) (hl : l.length < 90000) : Meets Tryz.prog Gd 39 [strP l] (rpartsP l) := by
  refine meets_of_vc (Y := {}) (N := 18) (rs := [.tmp 2, .tmp 3, .tmp 4]) mix tk gd Tryz.func39 rfl (by kernel_rfl) rfl rfl (by simp) (by kernel_rfl) ?_
  unfold rpartsP
  simp (maxSteps := 10000000) only [↓sx, sx, ↓ty, ↓reduceIte, Nat.reduceEqDiff, Nat.reduceBeqDiff, Nat.reduceAdd, Nat.reduceLeDiff, Nat.reduceLT, Nat.reduceMul, Nat.reduceSub, Int.reduceEq, Int.reduceBNe, Int.reduceBEq, ne_eq, not_false_eq_true, pc, ls, bs, and_true, true_and, and_self, Nat.reduceAdd, Nat.le_refl, leafP]
  refine CallT.mk (fread_n l (by omega)) ?_
  cases h : isRat l with
  | true =>
    rw [← fr_of h]
    simp (maxSteps := 10000000) only [↓sx, sx, ↓ty, ↓reduceIte, Nat.reduceEqDiff, Nat.reduceBeqDiff, Nat.reduceAdd, Nat.reduceLeDiff, Nat.reduceLT, Nat.reduceMul, Nat.reduceSub, Int.reduceEq, Int.reduceBNe, Int.reduceBEq, ne_eq, not_false_eq_true, pc, ls, bs, and_true, true_and, and_self, Nat.reduceAdd, Nat.le_refl, leafP, pd]
  | false =>
    simp (maxSteps := 10000000) only [↓sx, sx, ↓ty, ↓reduceIte, Nat.reduceEqDiff, Nat.reduceBeqDiff, Nat.reduceAdd, Nat.reduceLeDiff, Nat.reduceLT, Nat.reduceMul, Nat.reduceSub, Int.reduceEq, Int.reduceBNe, Int.reduceBEq, ne_eq, not_false_eq_true, pc, ls, bs, and_true, true_and, and_self, Nat.reduceAdd, Nat.le_refl, leafP]
set_option maxRecDepth 100000 in
theorem rsign_n (l : List UInt8) (hl : l.length < 90000) (h : isRat l = true) : Meets Tryz.prog Gd 76 [strP l] (iP (ratOf l).num.sign) := by
  refine meets_of_vc (Y := {}) (N := 11) (rs := [.tmp 2]) mix tk gd Tryz.func76 rfl (by kernel_rfl) rfl rfl (by simp) (by kernel_rfl) ?_
  simp (maxSteps := 10000000) only [↓sx, sx, ↓ty, ↓reduceIte, Nat.reduceEqDiff, Nat.reduceBeqDiff, Nat.reduceAdd, Nat.reduceLeDiff, Nat.reduceLT, Nat.reduceMul, Nat.reduceSub, Int.reduceEq, Int.reduceBNe, Int.reduceBEq, ne_eq, not_false_eq_true, pc, ls, bs, and_true, true_and, and_self, Nat.reduceAdd, Nat.le_refl, leafP]
  have hc := rcmp_n l [48] hl (by simp)
  rw [rcmp_zero h] at hc
  refine CallT.mk (t := ⟨⟩) hc ?_
  simp (maxSteps := 10000000) only [↓sx, sx, ↓ty, ↓reduceIte, Nat.reduceEqDiff, Nat.reduceBeqDiff, Nat.reduceAdd, Nat.reduceLeDiff, Nat.reduceLT, Nat.reduceMul, Nat.reduceSub, Int.reduceEq, Int.reduceBNe, Int.reduceBEq, ne_eq, not_false_eq_true, pc, ls, bs, and_true, true_and, and_self, Nat.reduceAdd, Nat.le_refl, leafP]
set_option maxRecDepth 100000 in
theorem check_fl (L U : List (List UInt8)) (n : Int) (hL : L.length < 100) (hU : 0 < U.length) (hU2 : U.length < 100) (hs : ∀ x ∈ L ++ U, x.length < 90000) : Meets Tryz.prog Gd 38 [.fl L.length (strsP L), .sl U.length (strsP U), iP n] (iP (checkI L U n)) := by
  refine meets_of_vc (Y := {}) (N := 39) (rs := [.tmp 6]) mix tk gd Tryz.func38 rfl (by kernel_rfl) rfl rfl (by simp) (by kernel_rfl) ?_
  simp (maxSteps := 10000000) only [↓sx, sx, ↓ty, ↓reduceIte, Nat.reduceEqDiff, Nat.reduceBeqDiff, Nat.reduceAdd, Nat.reduceLeDiff, Nat.reduceLT, Nat.reduceMul, Nat.reduceSub, Int.reduceEq, Int.reduceBNe, Int.reduceBEq, ne_eq, not_false_eq_true, pc, ls, bs, and_true, true_and, and_self, Nat.reduceAdd, Nat.le_refl, leafP]
  have hN : (strsP L ++ strsP U) = strsP (L ++ U) := by unfold strsP; rw [List.map_append]
  have hB : ∀ M : List (List UInt8), (strsP M).all valP = true := by intro M; unfold strsP; rw [List.all_map, List.all_eq_true]; intro x _; rfl
  refine ⟨⟨hU, by unfold strsP; simp, by unfold strsP; simp, hB L, hB U, by simp only [maxLen]; omega, by omega⟩, ?_⟩
  rw [hN]
  have hlen : L.length + U.length = (L ++ U).length := by simp
  rw [hlen]
  generalize hA : L ++ U = A at *
  refine loopK_of (fun i : Nat => [(1, .p (.sl U.length (strsP U))), (2, .p (iP n)), (13, .orow 13), (14, .p (.val (.int .i64 (A.length : Nat)))), (15, .p (.val (.int .i64 (i : Nat))))]) (fun _ => []) (fun _ => [(13, ⟨22, 1, A.length, strsP A, false⟩)]) (fun i => i ≤ A.length ∧ ∀ x ∈ A.take i, isRat x = true) (fun i => A.length - i) 0 ⟨Nat.zero_le _, by simp⟩ ?_ ?_
  · simp (maxSteps := 10000000) only [isE_nil, is_cons, bo_p, bo_box, bo_orow, bo_rowp, any_cons', all_cons', all_nil', Bool.true_or, Bool.or_true, ↓sx, sx, ↓reduceIte, Nat.reduceEqDiff, Nat.reduceBeqDiff]
    rfl
  · rintro i ⟨h1, h2⟩
    by_cases hi : i < A.length
    · have e1 : decide ((i : Int) < (A.length : Int)) = true := by simp; omega
      simp (maxSteps := 10000000) only [↓sx, sx, ↓ty, ↓reduceIte, Nat.reduceEqDiff, Nat.reduceBeqDiff, Nat.reduceAdd, Nat.reduceLeDiff, Nat.reduceLT, Nat.reduceMul, Nat.reduceSub, Int.reduceEq, Int.reduceBNe, Int.reduceBEq, ne_eq, not_false_eq_true, pc, ls, bs, and_true, true_and, and_self, Nat.reduceAdd, Nat.le_refl, leafP, e1]
      refine ⟨⟨by omega, hi⟩, ?_⟩
      rw [strs_get hi]
      simp (maxSteps := 10000000) only [↓sx, sx, ↓ty, ↓reduceIte, Nat.reduceEqDiff, Nat.reduceBeqDiff, Nat.reduceAdd, Nat.reduceLeDiff, Nat.reduceLT, Nat.reduceMul, Nat.reduceSub, Int.reduceEq, Int.reduceBNe, Int.reduceBEq, ne_eq, not_false_eq_true, pc, ls, bs, and_true, true_and, and_self, Nat.reduceAdd, Nat.le_refl, leafP]
      refine CallT.mk (t := ⟨⟩) (rvalid_n (A.getD i []) (by have := hs _ (getD_mem hi); omega)) ?_
      cases hv : isRat (A.getD i []) with
      | false =>
        have : checkI L U n = 1 := by
          unfold checkI; rw [if_neg]; rw [hA, List.all_eq_true]; intro h; have := h _ (getD_mem hi); rw [hv] at this; exact absurd this (by decide)
        rw [this]
        simp (maxSteps := 10000000) only [↓sx, sx, ↓ty, ↓reduceIte, Nat.reduceEqDiff, Nat.reduceBeqDiff, Nat.reduceAdd, Nat.reduceLeDiff, Nat.reduceLT, Nat.reduceMul, Nat.reduceSub, Int.reduceEq, Int.reduceBNe, Int.reduceBEq, ne_eq, not_false_eq_true, pc, ls, bs, and_true, true_and, and_self, Nat.reduceAdd, Nat.le_refl, leafP]
      | true =>
        simp (maxSteps := 10000000) only [↓sx, sx, ↓ty, ↓reduceIte, Nat.reduceEqDiff, Nat.reduceBeqDiff, Nat.reduceAdd, Nat.reduceLeDiff, Nat.reduceLT, Nat.reduceMul, Nat.reduceSub, Int.reduceEq, Int.reduceBNe, Int.reduceBEq, ne_eq, not_false_eq_true, pc, ls, bs, and_true, true_and, and_self, Nat.reduceAdd, Nat.le_refl, leafP]
        refine NextK.mk (i + 1) (by omega) ⟨by omega, take_all hi h2 hv⟩ ?_
        simp (maxSteps := 10000000) only [isE_nil, is_cons, bo_p, bo_box, bo_orow, bo_rowp, any_cons', all_cons', all_nil', Bool.true_or, Bool.or_true, ↓sx, sx, ↓reduceIte, Nat.reduceEqDiff, Nat.reduceBeqDiff]
        rw [i64_id (by omega) (by omega)]
        rfl
    · have e1 : decide ((i : Int) < (A.length : Int)) = false := by simp; omega
      simp (maxSteps := 10000000) only [↓sx, sx, ↓ty, ↓reduceIte, Nat.reduceEqDiff, Nat.reduceBeqDiff, Nat.reduceAdd, Nat.reduceLeDiff, Nat.reduceLT, Nat.reduceMul, Nat.reduceSub, Int.reduceEq, Int.reduceBNe, Int.reduceBEq, ne_eq, not_false_eq_true, pc, ls, bs, and_true, true_and, and_self, Nat.reduceAdd, Nat.le_refl, leafP, e1]
      have hall : ∀ x ∈ A, isRat x = true := by rw [List.take_of_length_le (by omega)] at h2; exact h2
      have hUA : ∀ x ∈ U, x ∈ A := fun x hx => hA ▸ List.mem_append_right L hx
      refine loopK_of (fun j : Nat => [(2, .p (iP n)), (23, .p (.sl U.length (strsP U))), (24, .p (.val (.int .i64 (U.length : Nat)))), (25, .p (.val (.int .i64 (j : Nat))))]) (fun _ => []) (fun _ => [(13, ⟨22, 1, A.length, strsP A, false⟩)]) (fun j => j ≤ U.length ∧ ∀ x ∈ U.take j, ¬ ratOf x < 0) (fun j => U.length - j) 0 ⟨Nat.zero_le _, by simp⟩ ?_ ?_
      · simp (maxSteps := 10000000) only [isE_nil, is_cons, bo_p, bo_box, bo_orow, bo_rowp, any_cons', all_cons', all_nil', Bool.true_or, Bool.or_true, ↓sx, sx, ↓reduceIte, Nat.reduceEqDiff, Nat.reduceBeqDiff]
        rfl
      · rintro j ⟨g1, g2⟩
        by_cases hj : j < U.length
        · have e2 : decide ((j : Int) < (U.length : Int)) = true := by simp; omega
          simp (maxSteps := 10000000) only [↓sx, sx, ↓ty, ↓reduceIte, Nat.reduceEqDiff, Nat.reduceBeqDiff, Nat.reduceAdd, Nat.reduceLeDiff, Nat.reduceLT, Nat.reduceMul, Nat.reduceSub, Int.reduceEq, Int.reduceBNe, Int.reduceBEq, ne_eq, not_false_eq_true, pc, ls, bs, and_true, true_and, and_self, Nat.reduceAdd, Nat.le_refl, leafP, e2]
          refine ⟨⟨by omega, hj, by unfold strsP; simp; omega⟩, ?_⟩
          rw [strs_get hj]
          simp (maxSteps := 10000000) only [↓sx, sx, ↓ty, ↓reduceIte, Nat.reduceEqDiff, Nat.reduceBeqDiff, Nat.reduceAdd, Nat.reduceLeDiff, Nat.reduceLT, Nat.reduceMul, Nat.reduceSub, Int.reduceEq, Int.reduceBNe, Int.reduceBEq, ne_eq, not_false_eq_true, pc, ls, bs, and_true, true_and, and_self, Nat.reduceAdd, Nat.le_refl, leafP]
          have hr := hall _ (hUA _ (getD_mem hj))
          refine CallT.mk (t := ⟨⟩) (rsign_n (U.getD j []) (by have := hs _ (hUA _ (getD_mem hj)); omega) hr) ?_
          simp (maxSteps := 10000000) only [↓sx, sx, ↓ty, ↓reduceIte, Nat.reduceEqDiff, Nat.reduceBeqDiff, Nat.reduceAdd, Nat.reduceLeDiff, Nat.reduceLT, Nat.reduceMul, Nat.reduceSub, Int.reduceEq, Int.reduceBNe, Int.reduceBEq, ne_eq, not_false_eq_true, pc, ls, bs, and_true, true_and, and_self, Nat.reduceAdd, Nat.le_refl, leafP]
          refine vcIf_dec (fun hn => ?_) (fun hn => ?_)
          · have : checkI L U n = 2 := by
              unfold checkI
              rw [hA, if_pos (List.all_eq_true.2 hall), if_pos]
              rw [List.any_eq_true]
              exact ⟨_, getD_mem hj, by simpa using (sign_lt0 _).1 hn⟩
            rw [this]
          · refine NextK.mk (j + 1) (by omega) ⟨by omega, take_all (p := fun x => ¬ ratOf x < 0) hj g2 fun h => hn ((sign_lt0 _).2 h)⟩ ?_
            simp (maxSteps := 10000000) only [isE_nil, is_cons, bo_p, bo_box, bo_orow, bo_rowp, any_cons', all_cons', all_nil', Bool.true_or, Bool.or_true, ↓sx, sx, ↓reduceIte, Nat.reduceEqDiff, Nat.reduceBeqDiff]
            rw [i64_id (by omega) (by omega)]
            rfl
        · have e2 : decide ((j : Int) < (U.length : Int)) = false := by simp; omega
          simp (maxSteps := 10000000) only [↓sx, sx, ↓ty, ↓reduceIte, Nat.reduceEqDiff, Nat.reduceBeqDiff, Nat.reduceAdd, Nat.reduceLeDiff, Nat.reduceLT, Nat.reduceMul, Nat.reduceSub, Int.reduceEq, Int.reduceBNe, Int.reduceBEq, ne_eq, not_false_eq_true, pc, ls, bs, and_true, true_and, and_self, Nat.reduceAdd, Nat.le_refl, leafP, e2]
          have hno : ∀ x ∈ U, ¬ ratOf x < 0 := by rw [List.take_of_length_le (by omega)] at g2; exact g2
          have hI : checkI L U n = if n < 1 ∨ n > 1000000000 then 2 else 0 := by
            unfold checkI
            rw [hA, if_pos (List.all_eq_true.2 hall), if_neg]
            rw [List.any_eq_true]
            rintro ⟨x, hx, hx2⟩
            exact hno x hx (by simpa using hx2)
          rw [hI]
          refine vcIf_dec (fun hn => ?_) (fun hn => ?_)
          · rw [if_pos (.inl hn)]
          · refine vcIf_dec (fun hn2 => ?_) (fun hn2 => ?_)
            · rw [if_pos (.inr hn2)]
            · rw [if_neg (by omega)]
set_option maxRecDepth 100000 in
theorem check_sl (L U : List (List UInt8)) (n : Int) (hL : L.length < 100) (hU : U = []) (hs : ∀ x ∈ L, x.length < 90000) : Meets Tryz.prog Gd 38 [.sl L.length (strsP L), .sl 0 [], iP n] (iP (checkI L U n)) := by
  refine meets_of_vc (Y := {}) (N := 39) (rs := [.tmp 6]) mix tk gd Tryz.func38 rfl (by kernel_rfl) rfl rfl (by simp) (by kernel_rfl) ?_
  simp (maxSteps := 10000000) only [↓sx, sx, ↓ty, ↓reduceIte, Nat.reduceEqDiff, Nat.reduceBeqDiff, Nat.reduceAdd, Nat.reduceLeDiff, Nat.reduceLT, Nat.reduceMul, Nat.reduceSub, Int.reduceEq, Int.reduceBNe, Int.reduceBEq, ne_eq, not_false_eq_true, pc, ls, bs, and_true, true_and, and_self, Nat.reduceAdd, Nat.le_refl, leafP]
  have hA : L ++ U = L := by rw [hU, List.append_nil]
  have hU2 : U.length = 0 := by rw [hU]; rfl
  refine loopK_of (fun i : Nat => [(1, .p (.sl 0 [])), (2, .p (iP n)), (13, .p (.sl L.length (strsP L))), (14, .p (.val (.int .i64 (L.length : Nat)))), (15, .p (.val (.int .i64 (i : Nat))))]) (fun _ => []) (fun _ => []) (fun i => i ≤ L.length ∧ ∀ x ∈ L.take i, isRat x = true) (fun i => L.length - i) 0 ⟨Nat.zero_le _, by simp⟩ ?_ ?_
  · simp (maxSteps := 10000000) only [isE_nil, is_cons, bo_p, bo_box, bo_orow, bo_rowp, any_cons', all_cons', all_nil', Bool.true_or, Bool.or_true, ↓sx, sx, ↓reduceIte, Nat.reduceEqDiff, Nat.reduceBeqDiff]
    rfl
  · rintro i ⟨h1, h2⟩
    by_cases hi : i < L.length
    · have e1 : decide ((i : Int) < (L.length : Int)) = true := by simp; omega
      simp (maxSteps := 10000000) only [↓sx, sx, ↓ty, ↓reduceIte, Nat.reduceEqDiff, Nat.reduceBeqDiff, Nat.reduceAdd, Nat.reduceLeDiff, Nat.reduceLT, Nat.reduceMul, Nat.reduceSub, Int.reduceEq, Int.reduceBNe, Int.reduceBEq, ne_eq, not_false_eq_true, pc, ls, bs, and_true, true_and, and_self, Nat.reduceAdd, Nat.le_refl, leafP, e1]
      refine ⟨⟨by omega, hi, by unfold strsP; simp; omega⟩, ?_⟩
      rw [strs_get hi]
      simp (maxSteps := 10000000) only [↓sx, sx, ↓ty, ↓reduceIte, Nat.reduceEqDiff, Nat.reduceBeqDiff, Nat.reduceAdd, Nat.reduceLeDiff, Nat.reduceLT, Nat.reduceMul, Nat.reduceSub, Int.reduceEq, Int.reduceBNe, Int.reduceBEq, ne_eq, not_false_eq_true, pc, ls, bs, and_true, true_and, and_self, Nat.reduceAdd, Nat.le_refl, leafP]
      refine CallT.mk (t := ⟨⟩) (rvalid_n (L.getD i []) (by have := hs _ (getD_mem hi); omega)) ?_
      cases hv : isRat (L.getD i []) with
      | false =>
        have : checkI L U n = 1 := by
          unfold checkI; rw [if_neg]; rw [hA, List.all_eq_true]; intro h; have := h _ (getD_mem hi); rw [hv] at this; exact absurd this (by decide)
        rw [this]
        simp (maxSteps := 10000000) only [↓sx, sx, ↓ty, ↓reduceIte, Nat.reduceEqDiff, Nat.reduceBeqDiff, Nat.reduceAdd, Nat.reduceLeDiff, Nat.reduceLT, Nat.reduceMul, Nat.reduceSub, Int.reduceEq, Int.reduceBNe, Int.reduceBEq, ne_eq, not_false_eq_true, pc, ls, bs, and_true, true_and, and_self, Nat.reduceAdd, Nat.le_refl, leafP]
      | true =>
        simp (maxSteps := 10000000) only [↓sx, sx, ↓ty, ↓reduceIte, Nat.reduceEqDiff, Nat.reduceBeqDiff, Nat.reduceAdd, Nat.reduceLeDiff, Nat.reduceLT, Nat.reduceMul, Nat.reduceSub, Int.reduceEq, Int.reduceBNe, Int.reduceBEq, ne_eq, not_false_eq_true, pc, ls, bs, and_true, true_and, and_self, Nat.reduceAdd, Nat.le_refl, leafP]
        refine NextK.mk (i + 1) (by omega) ⟨by omega, take_all hi h2 hv⟩ ?_
        simp (maxSteps := 10000000) only [isE_nil, is_cons, bo_p, bo_box, bo_orow, bo_rowp, any_cons', all_cons', all_nil', Bool.true_or, Bool.or_true, ↓sx, sx, ↓reduceIte, Nat.reduceEqDiff, Nat.reduceBeqDiff]
        rw [i64_id (by omega) (by omega)]
        rfl
    · have e1 : decide ((i : Int) < (L.length : Int)) = false := by simp; omega
      simp (maxSteps := 10000000) only [↓sx, sx, ↓ty, ↓reduceIte, Nat.reduceEqDiff, Nat.reduceBeqDiff, Nat.reduceAdd, Nat.reduceLeDiff, Nat.reduceLT, Nat.reduceMul, Nat.reduceSub, Int.reduceEq, Int.reduceBNe, Int.reduceBEq, ne_eq, not_false_eq_true, pc, ls, bs, and_true, true_and, and_self, Nat.reduceAdd, Nat.le_refl, leafP, e1]
      have hall : ∀ x ∈ L, isRat x = true := by rw [List.take_of_length_le (by omega)] at h2; exact h2
      have hUA : ∀ x ∈ U, x ∈ L := fun x hx => hA ▸ List.mem_append_right L hx
      refine loopK_of (fun j : Nat => [(2, .p (iP n)), (23, .p (.sl 0 [])), (24, .p (.val (.int .i64 0))), (25, .p (.val (.int .i64 (j : Nat))))]) (fun _ => []) (fun _ => []) (fun j => j ≤ U.length ∧ ∀ x ∈ U.take j, ¬ ratOf x < 0) (fun j => U.length - j) 0 ⟨Nat.zero_le _, by simp⟩ ?_ ?_
      · simp (maxSteps := 10000000) only [isE_nil, is_cons, bo_p, bo_box, bo_orow, bo_rowp, any_cons', all_cons', all_nil', Bool.true_or, Bool.or_true, ↓sx, sx, ↓reduceIte, Nat.reduceEqDiff, Nat.reduceBeqDiff]
        exact ⟨rfl, rfl⟩
      · rintro j ⟨g1, g2⟩
        by_cases hj : j < U.length
        · omega
        · have e2 : decide ((j : Int) < 0) = false := by simp
          simp (maxSteps := 10000000) only [↓sx, sx, ↓ty, ↓reduceIte, Nat.reduceEqDiff, Nat.reduceBeqDiff, Nat.reduceAdd, Nat.reduceLeDiff, Nat.reduceLT, Nat.reduceMul, Nat.reduceSub, Int.reduceEq, Int.reduceBNe, Int.reduceBEq, ne_eq, not_false_eq_true, pc, ls, bs, and_true, true_and, and_self, Nat.reduceAdd, Nat.le_refl, leafP, e2]
          have hno : ∀ x ∈ U, ¬ ratOf x < 0 := by rw [List.take_of_length_le (by omega)] at g2; exact g2
          have hI : checkI L U n = if n < 1 ∨ n > 1000000000 then 2 else 0 := by
            unfold checkI
            rw [hA, if_pos (List.all_eq_true.2 hall), if_neg]
            rw [List.any_eq_true]
            rintro ⟨x, hx, hx2⟩
            exact hno x hx (by simpa using hx2)
          rw [hI]
          refine vcIf_dec (fun hn => ?_) (fun hn => ?_)
          · rw [if_pos (.inl hn)]
          · refine vcIf_dec (fun hn2 => ?_) (fun hn2 => ?_)
            · rw [if_pos (.inr hn2)]
            · rw [if_neg (by omega)]
end Go.Proofs.YthhefojkkgjcfaaGreatDoor.S
namespace Gb
open Go Go.RowKit Go.Sx
def sumI (s : Int) (x : Rat) (t : Int) (y : Rat) : Int :=
  if s < 0 then (if t < 0 then -1 else if t = 0 then -1 else -(x - y).num.sign) else if s = 0 then (if t < 0 then -1 else if t = 0 then 0 else 1) else (if t < 0 then (x - y).num.sign else 1)
end Gb
namespace Go.Proofs.YthhefojkkgjcfaaGreatDoor.S
open Go Go.Sx Go.RowKit Gb Go.Shelf
theorem rmake_q (k n : Int) (hk : Lw k.natAbs < 5000) (hn : Lw n.natAbs < 5000) (h0 : n ≠ 0) : Meets Tryz.prog Gd 42 [siP k, siP n] (.tup [rtP (Rat.divInt k n), iP 0]) := by
  have := rmake_n (iD k) (iD n) (by have := iD_len k; omega) (by have := iD_len n; omega)
  unfold rmakeP at this
  rw [isInt_iD, isInt_iD, intOf_iD, intOf_iD, if_neg h0] at this
  exact this
theorem rsign_q (x : Rat) (hx : Sz 4000 x) : Meets Tryz.prog Gd 76 [rtP x] (iP x.num.sign) := by
  have := rsign_n (rT x) (by have := rT_len hx; omega) (isRat_rT x)
  rw [ratOf_rT] at this
  exact this
set_option maxRecDepth 100000 in
theorem over_q (k n : Int) (hk : Lw k.natAbs < 5000) (h1 : 1 ≤ n) (h2 : n ≤ 1000000000) : Meets Tryz.prog Gd 115 [siP k, iP n] (rtP (Rat.divInt k n)) := by
  refine meets_of_vc (Y := {}) (N := 15) (rs := [.tmp 4]) mix tk gd Tryz.func115 rfl (by kernel_rfl) rfl rfl (by simp) (by kernel_rfl) ?_
  simp (maxSteps := 10000000) only [↓sx, sx, ↓ty, ↓reduceIte, Nat.reduceEqDiff, Nat.reduceBeqDiff, Nat.reduceAdd, Nat.reduceLeDiff, Nat.reduceLT, Nat.reduceMul, Nat.reduceSub, Int.reduceEq, Int.reduceBNe, Int.reduceBEq, ne_eq, not_false_eq_true, pc, ls, bs, and_true, true_and, and_self, Nat.reduceAdd, Nat.le_refl, leafP]
  refine CallT.mk (t := ⟨⟩) (itoa_n n (by omega) (by omega)) ?_
  simp (maxSteps := 10000000) only [↓sx, sx, ↓ty, ↓reduceIte, Nat.reduceEqDiff, Nat.reduceBeqDiff, Nat.reduceAdd, Nat.reduceLeDiff, Nat.reduceLT, Nat.reduceMul, Nat.reduceSub, Int.reduceEq, Int.reduceBNe, Int.reduceBEq, ne_eq, not_false_eq_true, pc, ls, bs, and_true, true_and, and_self, Nat.reduceAdd, Nat.le_refl, leafP]
  have := Lw_le (n := n.natAbs) (k := 2) (by omega)
  refine CallT.mk (t := ⟨⟩) (rmake_q k n hk (by omega) (by omega)) ?_
  simp (maxSteps := 10000000) only [↓sx, sx, ↓ty, ↓reduceIte, Nat.reduceEqDiff, Nat.reduceBeqDiff, Nat.reduceAdd, Nat.reduceLeDiff, Nat.reduceLT, Nat.reduceMul, Nat.reduceSub, Int.reduceEq, Int.reduceBNe, Int.reduceBEq, ne_eq, not_false_eq_true, pc, ls, bs, and_true, true_and, and_self, Nat.reduceAdd, Nat.le_refl, leafP]
set_option maxRecDepth 100000 in
theorem part_q (a c : Rat) (ha : Sz 400 a) (hc : Sz 400 c) : Meets Tryz.prog Gd 56 [rtP a, rtP c] (.tup [iP (a.num.sign * c.num.sign), rtP (a * a * c)]) := by
  refine meets_of_vc (Y := {}) (N := 26) (rs := [.tmp 4, .tmp 5]) mix tk gd Tryz.func56 rfl (by kernel_rfl) rfl rfl (by simp) (by kernel_rfl) ?_
  have saa := ha.mul ha
  simp (maxSteps := 10000000) only [↓sx, sx, ↓ty, ↓reduceIte, Nat.reduceEqDiff, Nat.reduceBeqDiff, Nat.reduceAdd, Nat.reduceLeDiff, Nat.reduceLT, Nat.reduceMul, Nat.reduceSub, Int.reduceEq, Int.reduceBNe, Int.reduceBEq, ne_eq, not_false_eq_true, pc, ls, bs, and_true, true_and, and_self, Nat.reduceAdd, Nat.le_refl, leafP]
  refine CallT.mk (t := ⟨⟩) (rop_q rmul_n a a (ha.mono (by omega)) (ha.mono (by omega))) ?_
  simp (maxSteps := 10000000) only [↓sx, sx, ↓ty, ↓reduceIte, Nat.reduceEqDiff, Nat.reduceBeqDiff, Nat.reduceAdd, Nat.reduceLeDiff, Nat.reduceLT, Nat.reduceMul, Nat.reduceSub, Int.reduceEq, Int.reduceBNe, Int.reduceBEq, ne_eq, not_false_eq_true, pc, ls, bs, and_true, true_and, and_self, Nat.reduceAdd, Nat.le_refl, leafP]
  refine CallT.mk (t := ⟨⟩) (rop_q rmul_n (a * a) c (saa.mono (by omega)) (hc.mono (by omega))) ?_
  simp (maxSteps := 10000000) only [↓sx, sx, ↓ty, ↓reduceIte, Nat.reduceEqDiff, Nat.reduceBeqDiff, Nat.reduceAdd, Nat.reduceLeDiff, Nat.reduceLT, Nat.reduceMul, Nat.reduceSub, Int.reduceEq, Int.reduceBNe, Int.reduceBEq, ne_eq, not_false_eq_true, pc, ls, bs, and_true, true_and, and_self, Nat.reduceAdd, Nat.le_refl, leafP]
  refine CallT.mk (t := ⟨⟩) (rsign_q a (ha.mono (by omega))) ?_
  simp (maxSteps := 10000000) only [↓sx, sx, ↓ty, ↓reduceIte, Nat.reduceEqDiff, Nat.reduceBeqDiff, Nat.reduceAdd, Nat.reduceLeDiff, Nat.reduceLT, Nat.reduceMul, Nat.reduceSub, Int.reduceEq, Int.reduceBNe, Int.reduceBEq, ne_eq, not_false_eq_true, pc, ls, bs, and_true, true_and, and_self, Nat.reduceAdd, Nat.le_refl, leafP]
  refine CallT.mk (t := ⟨⟩) (rsign_q c (hc.mono (by omega))) ?_
  simp (maxSteps := 10000000) only [↓sx, sx, ↓ty, ↓reduceIte, Nat.reduceEqDiff, Nat.reduceBeqDiff, Nat.reduceAdd, Nat.reduceLeDiff, Nat.reduceLT, Nat.reduceMul, Nat.reduceSub, Int.reduceEq, Int.reduceBNe, Int.reduceBEq, ne_eq, not_false_eq_true, pc, ls, bs, and_true, true_and, and_self, Nat.reduceAdd, Nat.le_refl, leafP]
  have b1 := Int.sign_trichotomy a.num
  have b2 := Int.sign_trichotomy c.num
  have : IntKind.i64.wrap (a.num.sign * c.num.sign) = a.num.sign * c.num.sign := by
    rcases b1 with h | h | h <;> rcases b2 with h' | h' | h' <;> rw [h, h'] <;> decide
  rw [this]
set_option maxRecDepth 100000 in
set_option maxHeartbeats 4000000 in
theorem sum_q (s t : Int) (x y : Rat) (hs : s = -1 ∨ s = 0 ∨ s = 1) (ht : t = -1 ∨ t = 0 ∨ t = 1) (hx : Sz 4000 x) (hy : Sz 4000 y) : Meets Tryz.prog Gd 57 [iP s, rtP x, iP t, rtP y] (iP (sumI s x t y)) := by
  refine meets_of_vc (Y := {}) (N := 32) (rs := [.tmp 8]) mix tk gd Tryz.func57 rfl (by kernel_rfl) rfl rfl (by simp) (by kernel_rfl) ?_
  simp (maxSteps := 10000000) only [↓sx, sx, ↓ty, ↓reduceIte, Nat.reduceEqDiff, Nat.reduceBeqDiff, Nat.reduceAdd, Nat.reduceLeDiff, Nat.reduceLT, Nat.reduceMul, Nat.reduceSub, Int.reduceEq, Int.reduceBNe, Int.reduceBEq, ne_eq, not_false_eq_true, pc, ls, bs, and_true, true_and, and_self, Nat.reduceAdd, Nat.le_refl, leafP]
  refine CallT.mk (t := ⟨⟩) (rcmp_q x y hx hy) ?_
  have w0 : IntKind.i64.wrap (-1 + 1) = 0 := by decide
  have w1 : IntKind.i64.wrap (0 + 1) = 1 := by decide
  have w2 : IntKind.i64.wrap (1 + 1) = 2 := by decide
  have w3 : IntKind.i64.wrap (0 - (x - y).num.sign) = -(x - y).num.sign := by
    have := Int.sign_trichotomy (x - y).num
    rw [i64_id] <;> omega
  have t1 : Int.toNat 1 = 1 := rfl
  have t2 : Int.toNat 2 = 2 := rfl
  unfold sumI
  rcases hs with rfl | rfl | rfl <;> rcases ht with rfl | rfl | rfl <;> simp (maxSteps := 10000000) only [↓sx, sx, ↓ty, ↓reduceIte, Nat.reduceEqDiff, Nat.reduceBeqDiff, Nat.reduceAdd, Nat.reduceLeDiff, Nat.reduceLT, Nat.reduceMul, Nat.reduceSub, Int.reduceEq, Int.reduceBNe, Int.reduceBEq, ne_eq, not_false_eq_true, pc, ls, bs, and_true, true_and, and_self, Nat.reduceAdd, Nat.le_refl, leafP, w0, w1, w2, w3, t1, t2] <;> (refine ⟨by decide, by decide, ?_⟩; simp)
end Go.Proofs.YthhefojkkgjcfaaGreatDoor.S
namespace Gb
open Go Go.RowKit Go.Sx
noncomputable def exactP (l : List UInt8) : PV :=
  if isRat l then (if ratOf l < 0 then .tup [strP [], .val (.bool false), iP 2] else
    if rt (ratOf l).num.natAbs * rt (ratOf l).num.natAbs = (ratOf l).num.natAbs ∧ rt (ratOf l).den * rt (ratOf l).den = (ratOf l).den then
      .tup [rtP (Rat.divInt (rt (ratOf l).num.natAbs) (rt (ratOf l).den)), .val (.bool true), iP 0]
    else .tup [strP [], .val (.bool false), iP 0]) else .tup [strP [], .val (.bool false), iP 1]
def gx (i k n : Nat) : PV := if k < i then dP n else strP []
theorem dec_beq (a b : Nat) : (Lib.decDigits a == Lib.decDigits b) = decide (a = b) := by
  by_cases h : a = b
  · subst h; simp
  · rw [decide_eq_false h, beq_eq_false_iff_ne]
    intro e
    refine h ?_
    have := congrArg natOf e
    rwa [natOf_dec, natOf_dec] at this
theorem vcIf_not {b : Bool} {A B : Prop} (h1 : b = true → B) (h0 : b = false → A) : vcIf (!b) A B := by
  cases b
  · exact h0 rfl
  · exact h1 rfl
theorem check_one (l : List UInt8) : checkI [] [l] 1 = if isRat l then (if ratOf l < 0 then 2 else 0) else 1 := by
  unfold checkI; simp
end Gb
namespace Go.Proofs.YthhefojkkgjcfaaGreatDoor.S
open Go Go.Sx Go.RowKit Gb Go.Shelf
set_option maxRecDepth 100000 in
set_option maxHeartbeats 4000000 in
theorem xexact_n (l : List UInt8) (hl : l.length < 36000) : Meets Tryz.prog Gd 12 [strP l] (exactP l) := by
  refine meets_of_vc (Y := { bw := [1], fl := [42] }) (N := 65) (rs := [.tmp 2, .tmp 3, .tmp 4]) mix tk gd Tryz.func12 rfl (by kernel_rfl) rfl rfl (by simp) (by kernel_rfl) ?_
  have hc := check_fl [] [l] 1 (by simp) (by simp) (by simp) (by simpa using by omega)
  rw [check_one] at hc
  unfold exactP
  simp (maxSteps := 10000000) only [↓sx, sx, ↓ty, ↓reduceIte, Nat.reduceEqDiff, Nat.reduceBeqDiff, Nat.reduceAdd, Nat.reduceLeDiff, Nat.reduceLT, Nat.reduceMul, Nat.reduceSub, Int.reduceEq, Int.reduceBNe, Int.reduceBEq, ne_eq, not_false_eq_true, pc, ls, bs, and_true, true_and, and_self, Nat.reduceAdd, Nat.le_refl, leafP]
  refine CallT.mk (t := ⟨⟩) hc ?_
  cases h : isRat l with
  | false =>
    simp only [Bool.false_eq_true, if_false]
    simp (maxSteps := 10000000) only [↓sx, sx, ↓ty, ↓reduceIte, Nat.reduceEqDiff, Nat.reduceBeqDiff, Nat.reduceAdd, Nat.reduceLeDiff, Nat.reduceLT, Nat.reduceMul, Nat.reduceSub, Int.reduceEq, Int.reduceBNe, Int.reduceBEq, ne_eq, not_false_eq_true, pc, ls, bs, and_true, true_and, and_self, Nat.reduceAdd, Nat.le_refl, leafP]
  | true =>
    rw [if_pos rfl, if_pos rfl]
    by_cases h0 : ratOf l < 0
    · rw [if_pos h0, if_pos h0]
      simp (maxSteps := 10000000) only [↓sx, sx, ↓ty, ↓reduceIte, Nat.reduceEqDiff, Nat.reduceBeqDiff, Nat.reduceAdd, Nat.reduceLeDiff, Nat.reduceLT, Nat.reduceMul, Nat.reduceSub, Int.reduceEq, Int.reduceBNe, Int.reduceBEq, ne_eq, not_false_eq_true, pc, ls, bs, and_true, true_and, and_self, Nat.reduceAdd, Nat.le_refl, leafP]
    · simp only [if_neg h0]
      simp (maxSteps := 10000000) only [↓sx, sx, ↓ty, ↓reduceIte, Nat.reduceEqDiff, Nat.reduceBeqDiff, Nat.reduceAdd, Nat.reduceLeDiff, Nat.reduceLT, Nat.reduceMul, Nat.reduceSub, Int.reduceEq, Int.reduceBNe, Int.reduceBEq, ne_eq, not_false_eq_true, pc, ls, bs, and_true, true_and, and_self, Nat.reduceAdd, Nat.le_refl, leafP]
      have hp := parts_n l (by omega)
      unfold rpartsP at hp
      obtain ⟨p, hpn⟩ : ∃ p : Nat, (ratOf l).num = (p : Int) := ⟨(ratOf l).num.toNat, by have := Rat.num_nonneg.2 (Rat.not_lt.1 h0); omega⟩
      have sz : Sz 4002 (ratOf l) := Sz.of h (by omega)
      have lp : Lw p < 4003 := by have := sz.1; rw [hpn] at this; simpa using Nat.lt_of_le_of_lt this (by omega)
      have lq : Lw (ratOf l).den < 4003 := by have := sz.2; omega
      have q0 := (ratOf l).den_nz
      rw [h, if_pos rfl, hpn, siP_nat] at hp
      rw [hpn, Int.natAbs_natCast]
      generalize (ratOf l).den = q at *
      have rp := rt_spec p
      have rq := rt_spec q
      generalize rt p = u at *
      generalize rt q = v at *
      refine CallT.mk (t := ⟨⟩) hp ?_
      simp (maxSteps := 10000000) only [↓sx, sx, ↓ty, ↓reduceIte, Nat.reduceEqDiff, Nat.reduceBeqDiff, Nat.reduceAdd, Nat.reduceLeDiff, Nat.reduceLT, Nat.reduceMul, Nat.reduceSub, Int.reduceEq, Int.reduceBNe, Int.reduceBEq, ne_eq, not_false_eq_true, pc, ls, bs, and_true, true_and, and_self, Nat.reduceAdd, Nat.le_refl, leafP]
      refine loopK_of (fun i : Nat => [(9, .box 9 0), (30, .p (.agg [dP p, dP q])), (31, .p (.val (.int .i64 (i : Nat))))]) (fun i => [(9, (61, [gx i 0 u, gx i 1 v]))]) (fun _ => []) (fun i => i ≤ 2 ∧ (1 ≤ i → u * u = p) ∧ (2 ≤ i → v * v = q)) (fun i => 2 - i) 0 ⟨by omega, by omega, by omega⟩ ?_ ?_
      · simp (maxSteps := 10000000) only [isE_nil, is_cons, bo_p, bo_box, bo_orow, bo_rowp, any_cons', all_cons', all_nil', Bool.true_or, Bool.or_true, ↓sx, sx, ↓reduceIte, Nat.reduceEqDiff, Nat.reduceBeqDiff]
        exact ⟨rfl, rfl, rfl⟩
      · rintro i ⟨h1, h2, h3⟩
        have t1 : Int.toNat 1 = 1 := rfl
        have c0 : ((0 : Nat) : Int) = 0 := rfl
        have c1 : ((1 : Nat) : Int) = 1 := rfl
        have c2 : ((2 : Nat) : Int) = 2 := rfl
        have d0 : decide ((0 : Int) < 2) = true := by decide
        have d1 : decide ((1 : Int) < 2) = true := by decide
        have d2 : decide ((2 : Int) < 2) = false := by decide
        obtain rfl | rfl | rfl : i = 0 ∨ i = 1 ∨ i = 2 := by omega
        · have g0 : gx 0 0 u = strP [] := rfl
          have g1 : gx 0 1 v = strP [] := rfl
          simp (maxSteps := 10000000) only [↓sx, sx, ↓ty, ↓reduceIte, Nat.reduceEqDiff, Nat.reduceBeqDiff, Nat.reduceAdd, Nat.reduceLeDiff, Nat.reduceLT, Nat.reduceMul, Nat.reduceSub, Int.reduceEq, Int.reduceBNe, Int.reduceBEq, ne_eq, not_false_eq_true, pc, ls, bs, and_true, true_and, and_self, Nat.reduceAdd, Nat.le_refl, leafP, c0, d0, g0, g1]
          refine ⟨by decide, ?_⟩
          refine CallT.mk (t := ⟨⟩) (nroot_n p u (by omega) rp) ?_
          simp (maxSteps := 10000000) only [↓sx, sx, ↓ty, ↓reduceIte, Nat.reduceEqDiff, Nat.reduceBeqDiff, Nat.reduceAdd, Nat.reduceLeDiff, Nat.reduceLT, Nat.reduceMul, Nat.reduceSub, Int.reduceEq, Int.reduceBNe, Int.reduceBEq, ne_eq, not_false_eq_true, pc, ls, bs, and_true, true_and, and_self, Nat.reduceAdd, Nat.le_refl, leafP]
          refine ⟨by decide, by decide, by decide, ?_⟩
          refine CallT.mk (t := ⟨⟩) (nmul_n u u (by have := Lw_root rp.1; omega) (by have := Lw_root rp.1; omega)) ?_
          simp (maxSteps := 10000000) only [↓sx, sx, ↓ty, ↓reduceIte, Nat.reduceEqDiff, Nat.reduceBeqDiff, Nat.reduceAdd, Nat.reduceLeDiff, Nat.reduceLT, Nat.reduceMul, Nat.reduceSub, Int.reduceEq, Int.reduceBNe, Int.reduceBEq, ne_eq, not_false_eq_true, pc, ls, bs, and_true, true_and, and_self, Nat.reduceAdd, Nat.le_refl, leafP, dec_beq]
          refine vcIf_not (fun he => ?_) (fun he => ?_)
          · refine NextK.mk 1 (by omega) ⟨by omega, fun _ => by simpa using he, by omega⟩ ?_
            simp (maxSteps := 10000000) only [isE_nil, is_cons, bo_p, bo_box, bo_orow, bo_rowp, any_cons', all_cons', all_nil', Bool.true_or, Bool.or_true, ↓sx, sx, ↓reduceIte, Nat.reduceEqDiff, Nat.reduceBeqDiff]
            exact ⟨rfl, rfl, rfl⟩
          · (try try rw [if_neg h0]); rw [if_neg]
            rintro ⟨k1, k2⟩
            simp [k1] at he
        · have g0 : gx 1 0 u = dP u := rfl
          have g1 : gx 1 1 v = strP [] := rfl
          simp (maxSteps := 10000000) only [↓sx, sx, ↓ty, ↓reduceIte, Nat.reduceEqDiff, Nat.reduceBeqDiff, Nat.reduceAdd, Nat.reduceLeDiff, Nat.reduceLT, Nat.reduceMul, Nat.reduceSub, Int.reduceEq, Int.reduceBNe, Int.reduceBEq, ne_eq, not_false_eq_true, pc, ls, bs, and_true, true_and, and_self, Nat.reduceAdd, Nat.le_refl, leafP, c1, d1, g0, g1]
          refine ⟨by decide, ?_⟩
          refine CallT.mk (t := ⟨⟩) (nroot_n q v (by omega) rq) ?_
          simp (maxSteps := 10000000) only [↓sx, sx, ↓ty, ↓reduceIte, Nat.reduceEqDiff, Nat.reduceBeqDiff, Nat.reduceAdd, Nat.reduceLeDiff, Nat.reduceLT, Nat.reduceMul, Nat.reduceSub, Int.reduceEq, Int.reduceBNe, Int.reduceBEq, ne_eq, not_false_eq_true, pc, ls, bs, and_true, true_and, and_self, Nat.reduceAdd, Nat.le_refl, leafP, t1]
          refine ⟨by decide, by decide, by decide, ?_⟩
          refine CallT.mk (t := ⟨⟩) (nmul_n v v (by have := Lw_root rq.1; omega) (by have := Lw_root rq.1; omega)) ?_
          simp (maxSteps := 10000000) only [↓sx, sx, ↓ty, ↓reduceIte, Nat.reduceEqDiff, Nat.reduceBeqDiff, Nat.reduceAdd, Nat.reduceLeDiff, Nat.reduceLT, Nat.reduceMul, Nat.reduceSub, Int.reduceEq, Int.reduceBNe, Int.reduceBEq, ne_eq, not_false_eq_true, pc, ls, bs, and_true, true_and, and_self, Nat.reduceAdd, Nat.le_refl, leafP, dec_beq]
          refine vcIf_not (fun he => ?_) (fun he => ?_)
          · refine NextK.mk 2 (by omega) ⟨by omega, fun _ => h2 (by omega), fun _ => by simpa using he⟩ ?_
            simp (maxSteps := 10000000) only [isE_nil, is_cons, bo_p, bo_box, bo_orow, bo_rowp, any_cons', all_cons', all_nil', Bool.true_or, Bool.or_true, ↓sx, sx, ↓reduceIte, Nat.reduceEqDiff, Nat.reduceBeqDiff]
            exact ⟨rfl, rfl⟩
          · (try try rw [if_neg h0]); rw [if_neg]
            rintro ⟨k1, k2⟩
            simp [k2] at he
        · have g0 : gx 2 0 u = dP u := rfl
          have g1 : gx 2 1 v = dP v := rfl
          simp (maxSteps := 10000000) only [↓sx, sx, ↓ty, ↓reduceIte, Nat.reduceEqDiff, Nat.reduceBeqDiff, Nat.reduceAdd, Nat.reduceLeDiff, Nat.reduceLT, Nat.reduceMul, Nat.reduceSub, Int.reduceEq, Int.reduceBNe, Int.reduceBEq, ne_eq, not_false_eq_true, pc, ls, bs, and_true, true_and, and_self, Nat.reduceAdd, Nat.le_refl, leafP, c2, d2, g0, g1, t1]
          refine ⟨by decide, by decide, ?_⟩
          have v0 : (v : Int) ≠ 0 := by
            intro hv
            have : v = 0 := by omega
            subst this
            have := rq.2
            have := h3 (by omega)
            omega
          have mk := rmake_q u v (by have := Lw_root rp.1; simp; omega) (by have := Lw_root rq.1; simp; omega) v0
          rw [siP_nat, siP_nat] at mk
          refine CallT.mk (t := ⟨⟩) mk ?_
          simp (maxSteps := 10000000) only [↓sx, sx, ↓ty, ↓reduceIte, Nat.reduceEqDiff, Nat.reduceBeqDiff, Nat.reduceAdd, Nat.reduceLeDiff, Nat.reduceLT, Nat.reduceMul, Nat.reduceSub, Int.reduceEq, Int.reduceBNe, Int.reduceBEq, ne_eq, not_false_eq_true, pc, ls, bs, and_true, true_and, and_self, Nat.reduceAdd, Nat.le_refl, leafP]
          (try try rw [if_neg h0]); rw [if_pos ⟨h2 (by omega), h3 (by omega)⟩]
end Go.Proofs.YthhefojkkgjcfaaGreatDoor.S
