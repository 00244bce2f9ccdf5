/- A part of a proof; the last text of this claim says of what. -/
import Derived.Test.YtnlabeglboomlaaGreatDoorV28
set_option linter.unusedVariables false
set_option linter.unusedSimpArgs false
set_option linter.unusedSectionVars false
namespace Gb
open Go Go.RowKit Go.Sx
def inB (cs : List UInt8) (k : Nat) : Bool := cs.any fun c => c.toNat == k
def ascL (cs : List UInt8) : List PV := (List.range 256).map fun k => .val (.bool (inB cs k))
def pS (cs : List UInt8) (c : UInt8) : Bool := inB cs c.toNat
theorem ascL_len (cs : List UInt8) : (ascL cs).length = 256 := by unfold ascL; simp
theorem ascL_at (cs : List UInt8) (k : Nat) (h : k < 256) : (ascL cs)[k]? = some (.val (.bool (inB cs k))) := by
  unfold ascL
  rw [List.getElem?_map, List.getElem?_range h]; rfl
theorem ascL0 : List.replicate 256 (PV.val (Value.bool false)) = ascL [] := by
  refine List.ext_getElem? fun k => ?_
  by_cases hk : k < 256
  · rw [ascL_at _ _ hk, List.getElem?_replicate, if_pos hk]; rfl
  · rw [List.getElem?_eq_none (by rw [List.length_replicate]; omega), List.getElem?_eq_none (by rw [ascL_len]; omega)]
theorem inB_snoc (cs : List UInt8) (c : UInt8) (k : Nat) : inB (cs ++ [c]) k = (inB cs k || c.toNat == k) := by unfold inB; simp
theorem ascL_set (cs : List UInt8) (c : UInt8) : (ascL cs).set c.toNat (.val (.bool true)) = ascL (cs ++ [c]) := by
  have hc : c.toNat < 256 := c.toNat_lt
  refine List.ext_getElem? fun k => ?_
  rw [List.getElem?_set]
  by_cases hk : k < 256
  · rw [ascL_at _ _ hk, ascL_at _ _ hk, ascL_len, inB_snoc]
    by_cases h1 : c.toNat = k
    · subst h1
      rw [if_pos rfl, if_pos hc]
      simp
    · rw [if_neg h1, beq_eq_false_iff_ne.2 h1, Bool.or_false]
  · rw [if_neg (by omega), List.getElem?_eq_none (by rw [ascL_len]; omega), List.getElem?_eq_none (by rw [ascL_len]; omega)]
theorem ascL_put (cs : List UInt8) (c : UInt8) : List.take (0 + c.toNat) (ascL cs) ++ [PV.val (Value.bool true)] ++ List.drop (0 + c.toNat + 1) (ascL cs) = ascL (cs ++ [c]) := by
  have hc : c.toNat < 256 := c.toNat_lt
  rw [Nat.zero_add, ← ascL_set cs c, List.set_eq_take_append_cons_drop, if_pos (by rw [ascL_len]; omega), List.append_assoc]; rfl
def trS (p : UInt8 → Bool) (l : List UInt8) : List UInt8 := (l.reverse.dropWhile p).reverse
theorem trS_snoc (p : UInt8 → Bool) (l : List UInt8) (c : UInt8) : trS p (l ++ [c]) = if p c = true then trS p l else l ++ [c] := by
  unfold trS
  rw [List.reverse_append, List.reverse_singleton, List.singleton_append, List.dropWhile_cons]
  split
  · rfl
  · simp
theorem trS_len (p : UInt8 → Bool) (l : List UInt8) : (trS p l).length ≤ l.length := by
  unfold trS
  have := dw_len p l.reverse
  simpa using this
theorem trS_all (p : UInt8 → Bool) : ∀ (n : Nat) (l : List UInt8), l.length = n → ((∀ c ∈ trS p l, p c = true) ↔ ∀ c ∈ l, p c = true)
  | 0, l, h => by rw [List.length_eq_zero_iff.1 h]; rfl
  | n + 1, l, h => by
    rcases List.eq_nil_or_concat l with rfl | ⟨a, c, rfl⟩
    · rfl
    · rw [List.concat_eq_append] at *
      rw [trS_snoc]
      by_cases hc : p c = true
      · rw [if_pos hc, trS_all p n a (by simp at h; omega)]
        constructor
        · intro k x hx
          rcases List.mem_append.1 hx with hx | hx
          · exact k x hx
          · rw [List.mem_singleton] at hx; rw [hx]; exact hc
        · exact fun k x hx => k x (List.mem_append_left _ hx)
      · rw [if_neg hc]
theorem trS_dw (p : UInt8 → Bool) (l : List UInt8) : (trS p l).dropWhile p = [] ↔ ∀ c ∈ l, p c = true := by rw [dwn, trS_all p _ l rfl]
theorem trS_b (p : UInt8 → Bool) (l : List UInt8) : ((trS p l).dropWhile p == []) = l.all p := by
  cases h : l.all p with
  | true => rw [(trS_dw p l).2 (List.all_eq_true.1 h)]; rfl
  | false =>
    rw [beq_eq_false_iff_ne]
    intro e
    rw [List.all_eq_true.2 ((trS_dw p l).1 e)] at h
    cases h
end Gb
namespace Go.Proofs.YtnlabeglboomlaaGreatDoor.S
open Go Go.Sx Go.RowKit Gb Go.Shelf
set_option maxRecDepth 100000 in
set_option maxHeartbeats 4000000 in
theorem ascsetL_n (cs : List UInt8) (hcs : ∀ c ∈ cs, c.toNat < 128) (hn : cs.length < 1000) : Meets Tryz.prog Gd 129 [strP cs] (.tup [.agg (ascL cs), .val (.bool true)]) := by
  refine meets_of_vc (Y := {}) (N := 21) (rs := [.cell 2 150, .tmp 3]) mix tk gd Tryz.func129 rfl (by kernel_rfl) rfl rfl (by simp) (by kernel_rfl) ?_
  simp (maxSteps := 10000000) only [↓sx, sx, ↓ty, ↓reduceIte, Nat.reduceEqDiff, Nat.reduceBeqDiff, Nat.reduceAdd, Nat.reduceLeDiff, Nat.reduceLT, Nat.reduceMul, Nat.reduceSub, Int.reduceEq, Int.reduceBNe, Int.reduceBEq, ne_eq, not_false_eq_true, pc, ls, bs, and_true, true_and, and_self, Nat.reduceAdd, Nat.le_refl, leafP, ascL0]
  refine loopK_of (fun i : Nat => [(0, .p (strP cs)), (2, .box 2 0), (3, .p (.val (.bool false))), (4, .p (.val (.int .i64 (i : Nat))))]) (fun i => [(2, (150, ascL (cs.take i)))]) (fun _ => []) (fun i => i ≤ cs.length) (fun i => cs.length - i) 0 (by omega) ?_ ?_
  · simp (maxSteps := 10000000) only [isE_nil, is_cons, bo_p, bo_box, bo_orow, bo_rowp, any_cons', all_cons', all_nil', Bool.true_or, Bool.or_true, ↓sx, sx, ↓reduceIte, Nat.reduceEqDiff, Nat.reduceBeqDiff]
    first | trivial | rfl | exact ⟨rfl, rfl⟩ | exact ⟨rfl, rfl, rfl⟩ | exact ⟨rfl, rfl, rfl, rfl⟩ | exact ⟨rfl, rfl, rfl, rfl, rfl⟩
  · intro i hi
    by_cases hil : i < cs.length
    · obtain ⟨a, ha⟩ : ∃ a, cs[i]? = some a := ⟨cs[i], List.getElem?_eq_getElem hil⟩
      have hm := hcs a (List.mem_of_getElem? ha)
      have e1 : decide ((i : Int) < ((cs.length : Nat) : Int)) = true := decide_eq_true (by omega)
      have e2 : decide (((a.toNat : Nat) : Int) ≥ 128) = false := decide_eq_false (by omega)
      have hs := ascL_put (cs.take i) a
      rw [← take_snocA ha] at hs
      have hc : a.toNat < 256 := a.toNat_lt
      simp (maxSteps := 10000000) only [↓sx, sx, ↓ty, ↓reduceIte, Nat.reduceEqDiff, Nat.reduceBeqDiff, Nat.reduceAdd, Nat.reduceLeDiff, Nat.reduceLT, Nat.reduceMul, Nat.reduceSub, Int.reduceEq, Int.reduceBNe, Int.reduceBEq, ne_eq, not_false_eq_true, pc, ls, bs, and_true, true_and, and_self, Nat.reduceAdd, Nat.le_refl, leafP, e1, getD_get, ha, Option.getD_some, e2]
      refine ⟨⟨by omega, hil⟩, ⟨by omega, by omega⟩, by rw [ascL_len]; omega, NextK.mk (i + 1) (by omega) (by omega) ?_⟩
      simp (maxSteps := 10000000) only [isE_nil, is_cons, bo_p, bo_box, bo_orow, bo_rowp, any_cons', all_cons', all_nil', Bool.true_or, Bool.or_true, ↓sx, sx, ↓reduceIte, Nat.reduceEqDiff, Nat.reduceBeqDiff]
      rw [i64_id (by omega) (by omega), hs]
      first | trivial | rfl | exact ⟨rfl, rfl⟩ | exact ⟨rfl, rfl, rfl⟩ | exact ⟨rfl, rfl, rfl, rfl⟩ | exact ⟨rfl, rfl, rfl, rfl, rfl⟩
    · obtain rfl : i = cs.length := by omega
      have e1 : decide (((cs.length : Nat) : Int) < ((cs.length : Nat) : Int)) = false := decide_eq_false (by omega)
      have hl := ascL_len cs
      have ht : List.take 256 (ascL cs) = ascL cs := List.take_of_length_le (by rw [hl]; omega)
      have hf : (ascL cs).all leafP = true := by unfold ascL; rw [List.all_map]; exact List.all_eq_true.2 fun _ _ => rfl
      have hz : List.drop 256 (ascL cs) = [] := List.drop_eq_nil_of_le (by rw [hl]; omega)
      rw [List.take_length]
      simp (maxSteps := 10000000) only [↓sx, sx, ↓ty, ↓reduceIte, Nat.reduceEqDiff, Nat.reduceBeqDiff, Nat.reduceAdd, Nat.reduceLeDiff, Nat.reduceLT, Nat.reduceMul, Nat.reduceSub, Int.reduceEq, Int.reduceBNe, Int.reduceBEq, ne_eq, not_false_eq_true, pc, ls, bs, and_true, true_and, and_self, Nat.reduceAdd, Nat.le_refl, leafP, e1, ht, hl, hf, Nat.zero_add, hz, List.append_nil, List.append_nil]
set_option maxRecDepth 100000 in
theorem asccontL_n (cs : List UInt8) (c : UInt8) : Meets Tryz.prog Gd 151 [.ptr (ascL cs), .val (.int .u8 (c.toNat : Nat))] (.val (.bool (pS cs c))) := by
  refine meets_of_vc (Y := {}) (N := 10) (rs := [.tmp 4]) mix tk gd Tryz.func151 rfl (by kernel_rfl) rfl rfl (by simp) (by kernel_rfl) ?_
  have hc : c.toNat < 256 := c.toNat_lt
  have hd := ascL_at cs c.toNat hc
  rw [show inB cs c.toNat = pS cs c from rfl] at hd
  simp (maxSteps := 10000000) only [↓sx, sx, ↓ty, ↓reduceIte, Nat.reduceEqDiff, Nat.reduceBeqDiff, Nat.reduceAdd, Nat.reduceLeDiff, Nat.reduceLT, Nat.reduceMul, Nat.reduceSub, Int.reduceEq, Int.reduceBNe, Int.reduceBEq, ne_eq, not_false_eq_true, pc, ls, bs, and_true, true_and, and_self, Nat.reduceAdd, Nat.le_refl, leafP, hd]
  exact ⟨by omega, hc⟩
set_option maxRecDepth 100000 in
set_option maxHeartbeats 4000000 in
theorem trimlL_n (cs : List UInt8) (l : List UInt8) (hl : l.length < 10000000) : Meets Tryz.prog Gd 130 [strP l, .ptr (ascL cs)] (strP (l.dropWhile (pS cs))) := by
  refine meets_of_vc (Y := {}) (N := 16) (rs := [.tmp 4]) mix tk gd Tryz.func130 rfl (by kernel_rfl) rfl rfl (by simp) (by kernel_rfl) ?_
  simp (maxSteps := 10000000) only [↓sx, sx, ↓ty, ↓reduceIte, Nat.reduceEqDiff, Nat.reduceBeqDiff, Nat.reduceAdd, Nat.reduceLeDiff, Nat.reduceLT, Nat.reduceMul, Nat.reduceSub, Int.reduceEq, Int.reduceBNe, Int.reduceBEq, ne_eq, not_false_eq_true, pc, ls, bs, and_true, true_and, and_self, Nat.reduceAdd, Nat.le_refl, leafP]
  refine loopK_of (fun s : List UInt8 => [(0, .p (strP s)), (1, .p (.ptr (ascL cs))), (4, .p (strP []))]) (fun _ => []) (fun _ => []) (fun s => s.length ≤ l.length ∧ s.dropWhile (pS cs) = l.dropWhile (pS cs)) (fun s => s.length) l ⟨Nat.le_refl _, rfl⟩ ?_ ?_
  · simp (maxSteps := 10000000) only [isE_nil, is_cons, bo_p, bo_box, bo_orow, bo_rowp, any_cons', all_cons', all_nil', Bool.true_or, Bool.or_true, ↓sx, sx, ↓reduceIte, Nat.reduceEqDiff, Nat.reduceBeqDiff]
    try trivial
  · rintro s ⟨hs, hv⟩
    cases s with
    | nil =>
      have d0 : decide (((0 : Nat) : Int) > 0) = false := by decide
      simp (maxSteps := 10000000) only [↓sx, sx, ↓ty, ↓reduceIte, Nat.reduceEqDiff, Nat.reduceBeqDiff, Nat.reduceAdd, Nat.reduceLeDiff, Nat.reduceLT, Nat.reduceMul, Nat.reduceSub, Int.reduceEq, Int.reduceBNe, Int.reduceBEq, ne_eq, not_false_eq_true, pc, ls, bs, and_true, true_and, and_self, Nat.reduceAdd, Nat.le_refl, leafP, List.length_nil, d0]
      rw [← hv]
      rfl
    | cons c r =>
      have d0 : decide (((r.length + 1 : Nat) : Int) > 0) = true := decide_eq_true (by omega)
      rw [List.length_cons] at hs
      simp (maxSteps := 10000000) only [↓sx, sx, ↓ty, ↓reduceIte, Nat.reduceEqDiff, Nat.reduceBeqDiff, Nat.reduceAdd, Nat.reduceLeDiff, Nat.reduceLT, Nat.reduceMul, Nat.reduceSub, Int.reduceEq, Int.reduceBNe, Int.reduceBEq, ne_eq, not_false_eq_true, pc, ls, bs, and_true, true_and, and_self, Nat.reduceAdd, Nat.le_refl, leafP, List.length_cons, d0, getD_get, Option.getD_some]
      refine ⟨by omega, ?_⟩
      refine CallT.mk (t := ⟨⟩) (asccontL_n cs c) ?_
      rw [List.dropWhile_cons] at hv
      cases hc : pS cs c with
      | true =>
        rw [hc, if_pos rfl] at hv
        simp (maxSteps := 10000000) only [↓sx, sx, ↓ty, ↓reduceIte, Nat.reduceEqDiff, Nat.reduceBeqDiff, Nat.reduceAdd, Nat.reduceLeDiff, Nat.reduceLT, Nat.reduceMul, Nat.reduceSub, Int.reduceEq, Int.reduceBNe, Int.reduceBEq, ne_eq, not_false_eq_true, pc, ls, bs, and_true, true_and, and_self, Nat.reduceAdd, Nat.le_refl, leafP]
        refine ⟨by omega, NextK.mk r (by simp) ⟨by omega, hv⟩ ?_⟩
        simp (maxSteps := 10000000) only [isE_nil, is_cons, bo_p, bo_box, bo_orow, bo_rowp, any_cons', all_cons', all_nil', Bool.true_or, Bool.or_true, ↓sx, sx, ↓reduceIte, Nat.reduceEqDiff, Nat.reduceBeqDiff]
        have e1 : List.take (r.length + 1 - Int.toNat 1) (List.drop (Int.toNat 1) (c :: r)) = r := by
          show List.take (r.length + 1 - 1) (List.drop 1 (c :: r)) = r
          rw [List.drop_one, List.tail_cons, List.take_of_length_le (by omega)]
        rw [e1]
        exact ⟨rfl, rfl⟩
      | false =>
        rw [hc, if_neg (by decide)] at hv
        simp (maxSteps := 10000000) only [↓sx, sx, ↓ty, ↓reduceIte, Nat.reduceEqDiff, Nat.reduceBeqDiff, Nat.reduceAdd, Nat.reduceLeDiff, Nat.reduceLT, Nat.reduceMul, Nat.reduceSub, Int.reduceEq, Int.reduceBNe, Int.reduceBEq, ne_eq, not_false_eq_true, pc, ls, bs, and_true, true_and, and_self, Nat.reduceAdd, Nat.le_refl, leafP]
        rw [← hv]
set_option maxRecDepth 100000 in
set_option maxHeartbeats 4000000 in
theorem trimrL_n (cs : List UInt8) (l : List UInt8) (hl : l.length < 10000000) : Meets Tryz.prog Gd 131 [strP l, .ptr (ascL cs)] (strP (trS (pS cs) l)) := by
  refine meets_of_vc (Y := {}) (N := 22) (rs := [.tmp 4]) mix tk gd Tryz.func131 rfl (by kernel_rfl) rfl rfl (by simp) (by kernel_rfl) ?_
  simp (maxSteps := 10000000) only [↓sx, sx, ↓ty, ↓reduceIte, Nat.reduceEqDiff, Nat.reduceBeqDiff, Nat.reduceAdd, Nat.reduceLeDiff, Nat.reduceLT, Nat.reduceMul, Nat.reduceSub, Int.reduceEq, Int.reduceBNe, Int.reduceBEq, ne_eq, not_false_eq_true, pc, ls, bs, and_true, true_and, and_self, Nat.reduceAdd, Nat.le_refl, leafP]
  refine loopK_of (fun s : List UInt8 => [(0, .p (strP s)), (1, .p (.ptr (ascL cs))), (4, .p (strP []))]) (fun _ => []) (fun _ => []) (fun s => s.length ≤ l.length ∧ trS (pS cs) s = trS (pS cs) l) (fun s => s.length) l ⟨Nat.le_refl _, rfl⟩ ?_ ?_
  · simp (maxSteps := 10000000) only [isE_nil, is_cons, bo_p, bo_box, bo_orow, bo_rowp, any_cons', all_cons', all_nil', Bool.true_or, Bool.or_true, ↓sx, sx, ↓reduceIte, Nat.reduceEqDiff, Nat.reduceBeqDiff]
    try trivial
  · rintro s ⟨hs, hv⟩
    rcases List.eq_nil_or_concat s with rfl | ⟨a, c, rfl⟩
    · have d0 : decide (((0 : Nat) : Int) > 0) = false := by decide
      simp (maxSteps := 10000000) only [↓sx, sx, ↓ty, ↓reduceIte, Nat.reduceEqDiff, Nat.reduceBeqDiff, Nat.reduceAdd, Nat.reduceLeDiff, Nat.reduceLT, Nat.reduceMul, Nat.reduceSub, Int.reduceEq, Int.reduceBNe, Int.reduceBEq, ne_eq, not_false_eq_true, pc, ls, bs, and_true, true_and, and_self, Nat.reduceAdd, Nat.le_refl, leafP, List.length_nil, d0]
      rw [← hv]
      rfl
    · rw [List.concat_eq_append] at *
      have hal : (a ++ [c]).length = a.length + 1 := by simp
      have d0 : decide (((a.length + 1 : Nat) : Int) > 0) = true := decide_eq_true (by omega)
      rw [hal] at hs
      have wl1 : IntKind.i64.wrap (((a.length + 1 : Nat) : Int) - 1) = ((a.length : Nat) : Int) := by rw [i64_id (by omega) (by omega)]; omega
      have hat : (a ++ [c])[a.length]? = some c := by rw [List.getElem?_append_right (Nat.le_refl _), Nat.sub_self]; rfl
      have hn : ((a.length : Nat) : Int).toNat = a.length := rfl
      simp (maxSteps := 10000000) only [↓sx, sx, ↓ty, ↓reduceIte, Nat.reduceEqDiff, Nat.reduceBeqDiff, Nat.reduceAdd, Nat.reduceLeDiff, Nat.reduceLT, Nat.reduceMul, Nat.reduceSub, Int.reduceEq, Int.reduceBNe, Int.reduceBEq, ne_eq, not_false_eq_true, pc, ls, bs, and_true, true_and, and_self, Nat.reduceAdd, Nat.le_refl, leafP, hal, d0, getD_get, wl1, hat, hn, Option.getD_some]
      refine ⟨by omega, ?_⟩
      refine CallT.mk (t := ⟨⟩) (asccontL_n cs c) ?_
      rw [trS_snoc] at hv
      cases hc : pS cs c with
      | true =>
        rw [hc, if_pos rfl] at hv
        simp (maxSteps := 10000000) only [↓sx, sx, ↓ty, ↓reduceIte, Nat.reduceEqDiff, Nat.reduceBeqDiff, Nat.reduceAdd, Nat.reduceLeDiff, Nat.reduceLT, Nat.reduceMul, Nat.reduceSub, Int.reduceEq, Int.reduceBNe, Int.reduceBEq, ne_eq, not_false_eq_true, pc, ls, bs, and_true, true_and, and_self, Nat.reduceAdd, Nat.le_refl, leafP, hal, wl1, hn]
        refine ⟨by omega, NextK.mk a (by simp) ⟨by omega, hv⟩ ?_⟩
        simp (maxSteps := 10000000) only [isE_nil, is_cons, bo_p, bo_box, bo_orow, bo_rowp, any_cons', all_cons', all_nil', Bool.true_or, Bool.or_true, ↓sx, sx, ↓reduceIte, Nat.reduceEqDiff, Nat.reduceBeqDiff]
        rw [show List.take a.length (a ++ [c]) = a by rw [List.take_append_of_le_length (Nat.le_refl _), List.take_length]]
        exact ⟨rfl, rfl⟩
      | false =>
        rw [hc, if_neg (by decide)] at hv
        simp (maxSteps := 10000000) only [↓sx, sx, ↓ty, ↓reduceIte, Nat.reduceEqDiff, Nat.reduceBeqDiff, Nat.reduceAdd, Nat.reduceLeDiff, Nat.reduceLT, Nat.reduceMul, Nat.reduceSub, Int.reduceEq, Int.reduceBNe, Int.reduceBEq, ne_eq, not_false_eq_true, pc, ls, bs, and_true, true_and, and_self, Nat.reduceAdd, Nat.le_refl, leafP]
        rw [← hv]
set_option maxRecDepth 100000 in
set_option maxHeartbeats 4000000 in
theorem trimL_n (cs : List UInt8) (hc : ∀ c ∈ cs, c.toNat < 128) (h2 : 2 ≤ cs.length) (hn : cs.length < 1000) (l : List UInt8) (hl : l.length < 10000000) : Meets Tryz.prog Gd 101 [strP l, strP cs] (strP ((trS (pS cs) l).dropWhile (pS cs))) := by
  refine meets_of_vc (Y := {}) (N := 43) (rs := [.tmp 4]) mix tk gd Tryz.func101 rfl (by kernel_rfl) rfl rfl (by simp) (by kernel_rfl) ?_
  have hcs : (cs == []) = false := by cases cs with | nil => simp at h2 | cons a b => rfl
  have c1 : (((cs.length : Nat) : Int) == 1) = false := by rw [beq_eq_false_iff_ne]; omega
  cases hl0 : (l == []) with
  | true =>
    have : l = [] := eq_of_beq hl0
    subst this
    simp (maxSteps := 10000000) only [↓sx, sx, ↓ty, ↓reduceIte, Nat.reduceEqDiff, Nat.reduceBeqDiff, Nat.reduceAdd, Nat.reduceLeDiff, Nat.reduceLT, Nat.reduceMul, Nat.reduceSub, Int.reduceEq, Int.reduceBNe, Int.reduceBEq, ne_eq, not_false_eq_true, pc, ls, bs, and_true, true_and, and_self, Nat.reduceAdd, Nat.le_refl, leafP, ba_beq, hl0]
    rfl
  | false =>
    simp (maxSteps := 10000000) only [↓sx, sx, ↓ty, ↓reduceIte, Nat.reduceEqDiff, Nat.reduceBeqDiff, Nat.reduceAdd, Nat.reduceLeDiff, Nat.reduceLT, Nat.reduceMul, Nat.reduceSub, Int.reduceEq, Int.reduceBNe, Int.reduceBEq, ne_eq, not_false_eq_true, pc, ls, bs, and_true, true_and, and_self, Nat.reduceAdd, Nat.le_refl, leafP, ba_beq, hcs, c1, hl0]
    refine CallT.mk (t := ⟨⟩) (ascsetL_n cs hc hn) ?_
    simp (maxSteps := 10000000) only [↓sx, sx, ↓ty, ↓reduceIte, Nat.reduceEqDiff, Nat.reduceBeqDiff, Nat.reduceAdd, Nat.reduceLeDiff, Nat.reduceLT, Nat.reduceMul, Nat.reduceSub, Int.reduceEq, Int.reduceBNe, Int.reduceBEq, ne_eq, not_false_eq_true, pc, ls, bs, and_true, true_and, and_self, Nat.reduceAdd, Nat.le_refl, leafP]
    have hf : (ascL cs).all leafP = true := by unfold ascL; rw [List.all_map]; exact List.all_eq_true.2 fun _ _ => rfl
    have hap : ascL cs ++ List.drop (0 + (ascL cs).length) (List.replicate 256 (PV.val (Value.bool false))) = ascL cs := by
      rw [List.drop_eq_nil_of_le (by rw [ascL_len, List.length_replicate]; omega), List.append_nil]
    rw [hap]
    refine ⟨⟨ascL_len cs, by rw [ascL_len, List.length_replicate]; omega, hf⟩, ?_⟩
    refine CallT.mk (t := ⟨⟩) (trimrL_n cs l hl) ?_
    simp (maxSteps := 10000000) only [↓sx, sx, ↓ty, ↓reduceIte, Nat.reduceEqDiff, Nat.reduceBeqDiff, Nat.reduceAdd, Nat.reduceLeDiff, Nat.reduceLT, Nat.reduceMul, Nat.reduceSub, Int.reduceEq, Int.reduceBNe, Int.reduceBEq, ne_eq, not_false_eq_true, pc, ls, bs, and_true, true_and, and_self, Nat.reduceAdd, Nat.le_refl, leafP]
    have hrl : (trS (pS cs) l).length ≤ l.length := trS_len (pS cs) l
    refine CallT.mk (t := ⟨⟩) (trimlL_n cs (trS (pS cs) l) (by omega)) ?_
    simp (maxSteps := 10000000) only [↓sx, sx, ↓ty, ↓reduceIte, Nat.reduceEqDiff, Nat.reduceBeqDiff, Nat.reduceAdd, Nat.reduceLeDiff, Nat.reduceLT, Nat.reduceMul, Nat.reduceSub, Int.reduceEq, Int.reduceBNe, Int.reduceBEq, ne_eq, not_false_eq_true, pc, ls, bs, and_true, true_and, and_self, Nat.reduceAdd, Nat.le_refl, leafP]
end Go.Proofs.YtnlabeglboomlaaGreatDoor.S
namespace Gb
open Go Go.RowKit Go.Sx
structure Wt where
  nm : List UInt8
  m : List UInt8
  c : Vt
  fr : List UInt8
  tt : List UInt8
def wtC (w : Wt) : List PV := [.val (.string ⟨w.nm.toArray⟩), .val (.string ⟨w.m.toArray⟩), .val (.string ⟨w.c.x.toArray⟩), .val (.string ⟨w.c.y.toArray⟩), .val (.string ⟨w.c.z.toArray⟩), .val (.string ⟨w.fr.toArray⟩), .val (.string ⟨w.tt.toArray⟩)]
def wtP (w : Wt) : PV := .agg (wtC w)
theorem wtC_len (w : Wt) : (wtC w).length = 7 := rfl
theorem wtC_leaf (w : Wt) : (wtC w).all leafP = true := rfl
theorem wt_drop (l : List Wt) (i : Nat) (x : Wt) (h : l[i]? = some x) : (recs wtC l).drop (i * 7) = .val (.string ⟨x.nm.toArray⟩) :: .val (.string ⟨x.m.toArray⟩) :: .val (.string ⟨x.c.x.toArray⟩) :: .val (.string ⟨x.c.y.toArray⟩) :: .val (.string ⟨x.c.z.toArray⟩) :: .val (.string ⟨x.fr.toArray⟩) :: .val (.string ⟨x.tt.toArray⟩) :: recs wtC (l.drop (i + 1)) := recs_drop wtC_len l i x h
def letters : List UInt8 := [97, 98, 99, 100, 101, 102, 103, 104, 105, 106, 107, 108, 109, 110, 111, 112, 113, 114, 115, 116, 117, 118, 119, 120, 121, 122, 65, 66, 67, 68, 69, 70, 71, 72, 73, 74, 75, 76, 77, 78, 79, 80, 81, 82, 83, 84, 85, 86, 87, 88, 89, 90, 48, 49, 50, 51, 52, 53, 54, 55, 56, 57, 45, 46]
def namB (l : List UInt8) : Bool := decide (1 ≤ l.length) && decide (l.length ≤ 64) && l.all (pS letters)
def Wt.rat (w : Wt) : Bool := isRat w.m && w.c.rat && isRat w.fr && isRat w.tt
def faultI (w : Wt) : Int := if namB w.nm then (if w.rat then (if ratOf w.m < 0 ∨ ¬ ratOf w.fr < ratOf w.tt then 2 else if ratOf w.fr + ratOf w.tt = 2 * ratOf w.c.x then 0 else 10) else 1) else 4
def Wt.lt (w : Wt) (n : Nat) : Prop := w.nm.length < n ∧ w.m.length < n ∧ w.c.lt n ∧ w.fr.length < n ∧ w.tt.length < n
theorem rT_beq (x y : Rat) : (rT x == rT y) = decide (x = y) := by
  by_cases h : x = y
  · rw [h, decide_eq_true rfl, beq_self_eq_true]
  · rw [decide_eq_false h, beq_eq_false_iff_ne]
    intro e
    have := congrArg ratOf e
    rw [ratOf_rT, ratOf_rT] at this
    exact h this
theorem c2 : rtP 2 = strP [50] ∧ Sz 1 (2 : Rat) := cst [50] 2 (by decide +kernel)
end Gb
namespace Go.Proofs.YtnlabeglboomlaaGreatDoor.S
open Go Go.Sx Go.RowKit Gb Go.Shelf
set_option maxRecDepth 100000 in
theorem ladd_q (x y : Rat) (hx : Sz 4000 x) (hy : Sz 4000 y) : Meets Tryz.prog Gd 43 [rtP x, rtP y] (rtP (x + y)) := by
  refine meets_of_vc (Y := {}) (N := 14) (rs := [.tmp 4]) mix tk gd Tryz.func43 rfl (by kernel_rfl) rfl rfl (by simp) (by kernel_rfl) ?_
  simp (maxSteps := 10000000) only [↓sx, sx, ↓ty, ↓reduceIte, Nat.reduceEqDiff, Nat.reduceBeqDiff, Nat.reduceAdd, Nat.reduceLeDiff, Nat.reduceLT, Nat.reduceMul, Nat.reduceSub, Int.reduceEq, Int.reduceBNe, Int.reduceBEq, ne_eq, not_false_eq_true, pc, ls, bs, and_true, true_and, and_self, Nat.reduceAdd, Nat.le_refl, leafP]
  refine CallT.mk (t := ⟨⟩) (rop_q radd_n x y hx hy) ?_
  simp (maxSteps := 10000000) only [↓sx, sx, ↓ty, ↓reduceIte, Nat.reduceEqDiff, Nat.reduceBeqDiff, Nat.reduceAdd, Nat.reduceLeDiff, Nat.reduceLT, Nat.reduceMul, Nat.reduceSub, Int.reduceEq, Int.reduceBNe, Int.reduceBEq, ne_eq, not_false_eq_true, pc, ls, bs, and_true, true_and, and_self, Nat.reduceAdd, Nat.le_refl, leafP]
set_option maxRecDepth 100000 in
theorem lsub_q (x y : Rat) (hx : Sz 4000 x) (hy : Sz 4000 y) : Meets Tryz.prog Gd 52 [rtP x, rtP y] (rtP (x - y)) := by
  refine meets_of_vc (Y := {}) (N := 14) (rs := [.tmp 4]) mix tk gd Tryz.func52 rfl (by kernel_rfl) rfl rfl (by simp) (by kernel_rfl) ?_
  simp (maxSteps := 10000000) only [↓sx, sx, ↓ty, ↓reduceIte, Nat.reduceEqDiff, Nat.reduceBeqDiff, Nat.reduceAdd, Nat.reduceLeDiff, Nat.reduceLT, Nat.reduceMul, Nat.reduceSub, Int.reduceEq, Int.reduceBNe, Int.reduceBEq, ne_eq, not_false_eq_true, pc, ls, bs, and_true, true_and, and_self, Nat.reduceAdd, Nat.le_refl, leafP]
  refine CallT.mk (t := ⟨⟩) (rop_q rsub_n x y hx hy) ?_
  simp (maxSteps := 10000000) only [↓sx, sx, ↓ty, ↓reduceIte, Nat.reduceEqDiff, Nat.reduceBeqDiff, Nat.reduceAdd, Nat.reduceLeDiff, Nat.reduceLT, Nat.reduceMul, Nat.reduceSub, Int.reduceEq, Int.reduceBNe, Int.reduceBEq, ne_eq, not_false_eq_true, pc, ls, bs, and_true, true_and, and_self, Nat.reduceAdd, Nat.le_refl, leafP]
set_option maxRecDepth 100000 in
theorem lmul_q (x y : Rat) (hx : Sz 4000 x) (hy : Sz 4000 y) : Meets Tryz.prog Gd 51 [rtP x, rtP y] (rtP (x * y)) := by
  refine meets_of_vc (Y := {}) (N := 14) (rs := [.tmp 4]) mix tk gd Tryz.func51 rfl (by kernel_rfl) rfl rfl (by simp) (by kernel_rfl) ?_
  simp (maxSteps := 10000000) only [↓sx, sx, ↓ty, ↓reduceIte, Nat.reduceEqDiff, Nat.reduceBeqDiff, Nat.reduceAdd, Nat.reduceLeDiff, Nat.reduceLT, Nat.reduceMul, Nat.reduceSub, Int.reduceEq, Int.reduceBNe, Int.reduceBEq, ne_eq, not_false_eq_true, pc, ls, bs, and_true, true_and, and_self, Nat.reduceAdd, Nat.le_refl, leafP]
  refine CallT.mk (t := ⟨⟩) (rop_q rmul_n x y hx hy) ?_
  simp (maxSteps := 10000000) only [↓sx, sx, ↓ty, ↓reduceIte, Nat.reduceEqDiff, Nat.reduceBeqDiff, Nat.reduceAdd, Nat.reduceLeDiff, Nat.reduceLT, Nat.reduceMul, Nat.reduceSub, Int.reduceEq, Int.reduceBNe, Int.reduceBEq, ne_eq, not_false_eq_true, pc, ls, bs, and_true, true_and, and_self, Nat.reduceAdd, Nat.le_refl, leafP]
set_option maxRecDepth 100000 in
theorem ldiv_q (x y : Rat) (hx : Sz 4000 x) (hy : Sz 4000 y) (h0 : y ≠ 0) : Meets Tryz.prog Gd 47 [rtP x, rtP y] (rtP (x / y)) := by
  refine meets_of_vc (Y := {}) (N := 14) (rs := [.tmp 4]) mix tk gd Tryz.func47 rfl (by kernel_rfl) rfl rfl (by simp) (by kernel_rfl) ?_
  have D := rdiv_n (rT x) (rT y) (by have := rT_len hx; omega) (by have := rT_len hy; omega)
  unfold rdivP at D
  rw [isRat_rT, isRat_rT, if_pos (show (true && true) = true from rfl), ratOf_rT, ratOf_rT, if_neg h0] at D
  simp (maxSteps := 10000000) only [↓sx, sx, ↓ty, ↓reduceIte, Nat.reduceEqDiff, Nat.reduceBeqDiff, Nat.reduceAdd, Nat.reduceLeDiff, Nat.reduceLT, Nat.reduceMul, Nat.reduceSub, Int.reduceEq, Int.reduceBNe, Int.reduceBEq, ne_eq, not_false_eq_true, pc, ls, bs, and_true, true_and, and_self, Nat.reduceAdd, Nat.le_refl, leafP]
  refine CallT.mk (t := ⟨⟩) D ?_
  simp (maxSteps := 10000000) only [↓sx, sx, ↓ty, ↓reduceIte, Nat.reduceEqDiff, Nat.reduceBeqDiff, Nat.reduceAdd, Nat.reduceLeDiff, Nat.reduceLT, Nat.reduceMul, Nat.reduceSub, Int.reduceEq, Int.reduceBNe, Int.reduceBEq, ne_eq, not_false_eq_true, pc, ls, bs, and_true, true_and, and_self, Nat.reduceAdd, Nat.le_refl, leafP]
set_option maxRecDepth 100000 in
theorem lless_q (x y : Rat) (hx : Sz 4000 x) (hy : Sz 4000 y) : Meets Tryz.prog Gd 50 [rtP x, rtP y] (.val (.bool (decide (x < y)))) := by
  refine meets_of_vc (Y := {}) (N := 15) (rs := [.tmp 4]) mix tk gd Tryz.func50 rfl (by kernel_rfl) rfl rfl (by simp) (by kernel_rfl) ?_
  have h : decide ((x - y).num.sign < 0) = decide (x < y) := by congr 1; exact propext (lt_sign x y)
  simp (maxSteps := 10000000) only [↓sx, sx, ↓ty, ↓reduceIte, Nat.reduceEqDiff, Nat.reduceBeqDiff, Nat.reduceAdd, Nat.reduceLeDiff, Nat.reduceLT, Nat.reduceMul, Nat.reduceSub, Int.reduceEq, Int.reduceBNe, Int.reduceBEq, ne_eq, not_false_eq_true, pc, ls, bs, and_true, true_and, and_self, Nat.reduceAdd, Nat.le_refl, leafP]
  refine CallT.mk (t := ⟨⟩) (rcmp_q x y hx hy) ?_
  simp (maxSteps := 10000000) only [↓sx, sx, ↓ty, ↓reduceIte, Nat.reduceEqDiff, Nat.reduceBeqDiff, Nat.reduceAdd, Nat.reduceLeDiff, Nat.reduceLT, Nat.reduceMul, Nat.reduceSub, Int.reduceEq, Int.reduceBNe, Int.reduceBEq, ne_eq, not_false_eq_true, pc, ls, bs, and_true, true_and, and_self, Nat.reduceAdd, Nat.le_refl, leafP, h]
set_option maxRecDepth 100000 in
set_option maxHeartbeats 8000000 in
theorem lfault_n (w : Wt) (r : List PV) (h : w.lt 20000) : Meets Tryz.prog Gd 61 [.ptr (wtC w ++ r)] (iP (faultI w)) := by
  refine meets_of_vc (Y := {}) (N := 92) (rs := [.tmp 2]) mix tk gd Tryz.func61 rfl (by kernel_rfl) rfl rfl (by simp) (by kernel_rfl) ?_
  obtain ⟨q1, q2, q3, q4, q5⟩ := h
  have T := trimL_n letters (by decide) (by decide) (by decide) w.nm (by omega)
  have tb := trS_b (pS letters) w.nm
  generalize List.dropWhile (pS letters) (trS (pS letters) w.nm) = tx at T tb
  unfold wtC
  by_cases l1 : w.nm.length < 1
  · have d1 : decide (((w.nm.length : Nat) : Int) < 1) = true := decide_eq_true (by omega)
    have hf : faultI w = 4 := by unfold faultI namB; rw [decide_eq_false (by omega)]; rfl
    rw [hf]
    simp (maxSteps := 10000000) only [↓sx, sx, ↓ty, ↓reduceIte, Nat.reduceEqDiff, Nat.reduceBeqDiff, Nat.reduceAdd, Nat.reduceLeDiff, Nat.reduceLT, Nat.reduceMul, Nat.reduceSub, Int.reduceEq, Int.reduceBNe, Int.reduceBEq, ne_eq, not_false_eq_true, pc, ls, bs, and_true, true_and, and_self, Nat.reduceAdd, Nat.le_refl, leafP, d1]
  have d1 : decide (((w.nm.length : Nat) : Int) < 1) = false := decide_eq_false (by omega)
  by_cases l2 : 64 < w.nm.length
  · have d2 : decide (((w.nm.length : Nat) : Int) > 64) = true := decide_eq_true (by omega)
    have hf : faultI w = 4 := by unfold faultI namB; rw [decide_eq_false (p := w.nm.length ≤ 64) (by omega), Bool.and_false]; rfl
    rw [hf]
    simp (maxSteps := 10000000) only [↓sx, sx, ↓ty, ↓reduceIte, Nat.reduceEqDiff, Nat.reduceBeqDiff, Nat.reduceAdd, Nat.reduceLeDiff, Nat.reduceLT, Nat.reduceMul, Nat.reduceSub, Int.reduceEq, Int.reduceBNe, Int.reduceBEq, ne_eq, not_false_eq_true, pc, ls, bs, and_true, true_and, and_self, Nat.reduceAdd, Nat.le_refl, leafP, d1, d2]
  have d2 : decide (((w.nm.length : Nat) : Int) > 64) = false := decide_eq_false (by omega)
  unfold letters at T
  simp (maxSteps := 10000000) only [↓sx, sx, ↓ty, ↓reduceIte, Nat.reduceEqDiff, Nat.reduceBeqDiff, Nat.reduceAdd, Nat.reduceLeDiff, Nat.reduceLT, Nat.reduceMul, Nat.reduceSub, Int.reduceEq, Int.reduceBNe, Int.reduceBEq, ne_eq, not_false_eq_true, pc, ls, bs, and_true, true_and, and_self, Nat.reduceAdd, Nat.le_refl, leafP, d1, d2]
  refine CallT.mk (t := ⟨⟩) T ?_
  cases ha : w.nm.all (pS letters) with
  | false =>
    have hf : faultI w = 4 := by unfold faultI namB; rw [ha, Bool.and_false]; rfl
    rw [ha] at tb
    rw [hf]
    simp (maxSteps := 10000000) only [↓sx, sx, ↓ty, ↓reduceIte, Nat.reduceEqDiff, Nat.reduceBeqDiff, Nat.reduceAdd, Nat.reduceLeDiff, Nat.reduceLT, Nat.reduceMul, Nat.reduceSub, Int.reduceEq, Int.reduceBNe, Int.reduceBEq, ne_eq, not_false_eq_true, pc, ls, bs, and_true, true_and, and_self, Nat.reduceAdd, Nat.le_refl, leafP, ba_beq, tb]
  | true =>
    have hn : namB w.nm = true := by unfold namB; rw [ha, decide_eq_true (by omega), decide_eq_true (by omega)]; rfl
    rw [ha] at tb
    have V1 := rvalid_n w.m (by omega)
    have V2 := vvalid_n w.c ⟨by have := q3.1; omega, by have := q3.2.1; omega, by have := q3.2.2; omega⟩
    have V3 := rvalid_n w.fr (by omega)
    have V4 := rvalid_n w.tt (by omega)
    have hf1 : w.rat = false → faultI w = 1 := fun h => by unfold faultI; rw [hn, h]; rfl
    simp (maxSteps := 10000000) only [↓sx, sx, ↓ty, ↓reduceIte, Nat.reduceEqDiff, Nat.reduceBeqDiff, Nat.reduceAdd, Nat.reduceLeDiff, Nat.reduceLT, Nat.reduceMul, Nat.reduceSub, Int.reduceEq, Int.reduceBNe, Int.reduceBEq, ne_eq, not_false_eq_true, pc, ls, bs, and_true, true_and, and_self, Nat.reduceAdd, Nat.le_refl, leafP, ba_beq, tb]
    refine CallT.mk (t := ⟨⟩) V1 ?_
    cases r1 : isRat w.m with
    | false =>
      rw [hf1 (by unfold Wt.rat; rw [r1]; rfl)]
      simp (maxSteps := 10000000) only [↓sx, sx, ↓ty, ↓reduceIte, Nat.reduceEqDiff, Nat.reduceBeqDiff, Nat.reduceAdd, Nat.reduceLeDiff, Nat.reduceLT, Nat.reduceMul, Nat.reduceSub, Int.reduceEq, Int.reduceBNe, Int.reduceBEq, ne_eq, not_false_eq_true, pc, ls, bs, and_true, true_and, and_self, Nat.reduceAdd, Nat.le_refl, leafP]
    | true =>
      simp (maxSteps := 10000000) only [↓sx, sx, ↓ty, ↓reduceIte, Nat.reduceEqDiff, Nat.reduceBeqDiff, Nat.reduceAdd, Nat.reduceLeDiff, Nat.reduceLT, Nat.reduceMul, Nat.reduceSub, Int.reduceEq, Int.reduceBNe, Int.reduceBEq, ne_eq, not_false_eq_true, pc, ls, bs, and_true, true_and, and_self, Nat.reduceAdd, Nat.le_refl, leafP, pv]
      refine CallT.mk (t := ⟨⟩) V2 ?_
      cases r2 : w.c.rat with
      | false =>
        rw [hf1 (by unfold Wt.rat; rw [r2, Bool.and_false]; rfl)]
        simp (maxSteps := 10000000) only [↓sx, sx, ↓ty, ↓reduceIte, Nat.reduceEqDiff, Nat.reduceBeqDiff, Nat.reduceAdd, Nat.reduceLeDiff, Nat.reduceLT, Nat.reduceMul, Nat.reduceSub, Int.reduceEq, Int.reduceBNe, Int.reduceBEq, ne_eq, not_false_eq_true, pc, ls, bs, and_true, true_and, and_self, Nat.reduceAdd, Nat.le_refl, leafP]
      | true =>
        simp (maxSteps := 10000000) only [↓sx, sx, ↓ty, ↓reduceIte, Nat.reduceEqDiff, Nat.reduceBeqDiff, Nat.reduceAdd, Nat.reduceLeDiff, Nat.reduceLT, Nat.reduceMul, Nat.reduceSub, Int.reduceEq, Int.reduceBNe, Int.reduceBEq, ne_eq, not_false_eq_true, pc, ls, bs, and_true, true_and, and_self, Nat.reduceAdd, Nat.le_refl, leafP]
        refine CallT.mk (t := ⟨⟩) V3 ?_
        cases r3 : isRat w.fr with
        | false =>
          rw [hf1 (by unfold Wt.rat; rw [r3, Bool.and_false]; rfl)]
          simp (maxSteps := 10000000) only [↓sx, sx, ↓ty, ↓reduceIte, Nat.reduceEqDiff, Nat.reduceBeqDiff, Nat.reduceAdd, Nat.reduceLeDiff, Nat.reduceLT, Nat.reduceMul, Nat.reduceSub, Int.reduceEq, Int.reduceBNe, Int.reduceBEq, ne_eq, not_false_eq_true, pc, ls, bs, and_true, true_and, and_self, Nat.reduceAdd, Nat.le_refl, leafP]
        | true =>
          simp (maxSteps := 10000000) only [↓sx, sx, ↓ty, ↓reduceIte, Nat.reduceEqDiff, Nat.reduceBeqDiff, Nat.reduceAdd, Nat.reduceLeDiff, Nat.reduceLT, Nat.reduceMul, Nat.reduceSub, Int.reduceEq, Int.reduceBNe, Int.reduceBEq, ne_eq, not_false_eq_true, pc, ls, bs, and_true, true_and, and_self, Nat.reduceAdd, Nat.le_refl, leafP]
          refine CallT.mk (t := ⟨⟩) V4 ?_
          cases r4 : isRat w.tt with
          | false =>
            rw [hf1 (by unfold Wt.rat; rw [r4, Bool.and_false])]
            simp (maxSteps := 10000000) only [↓sx, sx, ↓ty, ↓reduceIte, Nat.reduceEqDiff, Nat.reduceBeqDiff, Nat.reduceAdd, Nat.reduceLeDiff, Nat.reduceLT, Nat.reduceMul, Nat.reduceSub, Int.reduceEq, Int.reduceBNe, Int.reduceBEq, ne_eq, not_false_eq_true, pc, ls, bs, and_true, true_and, and_self, Nat.reduceAdd, Nat.le_refl, leafP]
          | true =>
            have hr : w.rat = true := by unfold Wt.rat; rw [r1, r2, r3, r4]; rfl
            have rx := (vt_rat r2).1
            have z1 := (Sz.text r1).mono (m := 2223) (by omega)
            have z3 := (Sz.text r3).mono (m := 2223) (by omega)
            have z4 := (Sz.text r4).mono (m := 2223) (by omega)
            have zx := (Sz.text rx).mono (m := 2223) (by have := q3.1; omega)
            have L1 := lless_q (ratOf w.m) 0 (z1.mono (by omega)) (Sz0 _ (by omega))
            have L2 := lless_q (ratOf w.fr) (ratOf w.tt) (z3.mono (by omega)) (z4.mono (by omega))
            have A := ladd_q (ratOf w.fr) (ratOf w.tt) (z3.mono (by omega)) (z4.mono (by omega))
            have M := lmul_q 2 (ratOf w.c.x) (c2.2.mono (by omega)) (zx.mono (by omega))
            rw [rtP_of r1, c0.1] at L1
            rw [rtP_of r3, rtP_of r4] at L2 A
            rw [rtP_of rx, c2.1] at M
            unfold faultI
            rw [hn, hr, if_pos rfl, if_pos rfl]
            simp (maxSteps := 10000000) only [↓sx, sx, ↓ty, ↓reduceIte, Nat.reduceEqDiff, Nat.reduceBeqDiff, Nat.reduceAdd, Nat.reduceLeDiff, Nat.reduceLT, Nat.reduceMul, Nat.reduceSub, Int.reduceEq, Int.reduceBNe, Int.reduceBEq, ne_eq, not_false_eq_true, pc, ls, bs, and_true, true_and, and_self, Nat.reduceAdd, Nat.le_refl, leafP]
            refine CallT.mk (t := ⟨⟩) L1 ?_
            by_cases c1 : ratOf w.m < 0
            · rw [decide_eq_true c1, if_pos (.inl c1)]
              simp (maxSteps := 10000000) only [↓sx, sx, ↓ty, ↓reduceIte, Nat.reduceEqDiff, Nat.reduceBeqDiff, Nat.reduceAdd, Nat.reduceLeDiff, Nat.reduceLT, Nat.reduceMul, Nat.reduceSub, Int.reduceEq, Int.reduceBNe, Int.reduceBEq, ne_eq, not_false_eq_true, pc, ls, bs, and_true, true_and, and_self, Nat.reduceAdd, Nat.le_refl, leafP]
            · rw [decide_eq_false c1]
              simp (maxSteps := 10000000) only [↓sx, sx, ↓ty, ↓reduceIte, Nat.reduceEqDiff, Nat.reduceBeqDiff, Nat.reduceAdd, Nat.reduceLeDiff, Nat.reduceLT, Nat.reduceMul, Nat.reduceSub, Int.reduceEq, Int.reduceBNe, Int.reduceBEq, ne_eq, not_false_eq_true, pc, ls, bs, and_true, true_and, and_self, Nat.reduceAdd, Nat.le_refl, leafP]
              refine CallT.mk (t := ⟨⟩) L2 ?_
              by_cases c3 : ratOf w.fr < ratOf w.tt
              · rw [decide_eq_true c3, if_neg (by simp [c1, c3])]
                have eb := rT_beq (ratOf w.fr + ratOf w.tt) (2 * ratOf w.c.x)
                generalize ratOf w.fr + ratOf w.tt = s1 at *
                generalize 2 * ratOf w.c.x = s2 at *
                simp (maxSteps := 10000000) only [↓sx, sx, ↓ty, ↓reduceIte, Nat.reduceEqDiff, Nat.reduceBeqDiff, Nat.reduceAdd, Nat.reduceLeDiff, Nat.reduceLT, Nat.reduceMul, Nat.reduceSub, Int.reduceEq, Int.reduceBNe, Int.reduceBEq, ne_eq, not_false_eq_true, pc, ls, bs, and_true, true_and, and_self, Nat.reduceAdd, Nat.le_refl, leafP]
                refine CallT.mk (t := ⟨⟩) A ?_
                simp (maxSteps := 10000000) only [↓sx, sx, ↓ty, ↓reduceIte, Nat.reduceEqDiff, Nat.reduceBeqDiff, Nat.reduceAdd, Nat.reduceLeDiff, Nat.reduceLT, Nat.reduceMul, Nat.reduceSub, Int.reduceEq, Int.reduceBNe, Int.reduceBEq, ne_eq, not_false_eq_true, pc, ls, bs, and_true, true_and, and_self, Nat.reduceAdd, Nat.le_refl, leafP]
                refine CallT.mk (t := ⟨⟩) M ?_
                by_cases c4 : s1 = s2
                · rw [decide_eq_true c4] at eb
                  rw [if_pos c4]
                  simp (maxSteps := 10000000) only [↓sx, sx, ↓ty, ↓reduceIte, Nat.reduceEqDiff, Nat.reduceBeqDiff, Nat.reduceAdd, Nat.reduceLeDiff, Nat.reduceLT, Nat.reduceMul, Nat.reduceSub, Int.reduceEq, Int.reduceBNe, Int.reduceBEq, ne_eq, not_false_eq_true, pc, ls, bs, and_true, true_and, and_self, Nat.reduceAdd, Nat.le_refl, leafP, ba_beq, eb]
                · rw [decide_eq_false c4] at eb
                  rw [if_neg c4]
                  simp (maxSteps := 10000000) only [↓sx, sx, ↓ty, ↓reduceIte, Nat.reduceEqDiff, Nat.reduceBeqDiff, Nat.reduceAdd, Nat.reduceLeDiff, Nat.reduceLT, Nat.reduceMul, Nat.reduceSub, Int.reduceEq, Int.reduceBNe, Int.reduceBEq, ne_eq, not_false_eq_true, pc, ls, bs, and_true, true_and, and_self, Nat.reduceAdd, Nat.le_refl, leafP, ba_beq, eb]
              · rw [decide_eq_false c3, if_pos (.inr c3)]
                simp (maxSteps := 10000000) only [↓sx, sx, ↓ty, ↓reduceIte, Nat.reduceEqDiff, Nat.reduceBeqDiff, Nat.reduceAdd, Nat.reduceLeDiff, Nat.reduceLT, Nat.reduceMul, Nat.reduceSub, Int.reduceEq, Int.reduceBNe, Int.reduceBEq, ne_eq, not_false_eq_true, pc, ls, bs, and_true, true_and, and_self, Nat.reduceAdd, Nat.le_refl, leafP]
end Go.Proofs.YtnlabeglboomlaaGreatDoor.S
namespace Go.Proofs.YtnlabeglboomlaaGreatDoor.S
open Go Go.Sx Go.RowKit Gb Go.Shelf
set_option maxRecDepth 100000 in
theorem bothq_n (a b : List UInt8) (ha : a.length < 90000) (hb : b.length < 90000) : Meets Tryz.prog Gd 22 [strP a, strP b] (.tup [qP (rd a), qP (rd b), iP (if isRat a && isRat b then 0 else 1)]) := by
  refine meets_of_vc (Y := { ex := [4, 5] }) (N := 31) (rs := [.cell 4 46, .cell 5 46, .tmp 6]) mix tk gd Tryz.func22 rfl (by kernel_rfl) rfl rfl (by simp) (by kernel_rfl) ?_
  have f1 := from3_n gd a (by omega)
  have f2 := from3_n gd b (by omega)
  rw [show (if isRat a = true then ratOf a else 0) = rd a from rfl] at f1
  rw [show (if isRat b = true then ratOf b else 0) = rd b from rfl] at f2
  simp (maxSteps := 10000000) only [↓sx, sx, ↓ty, ↓reduceIte, Nat.reduceEqDiff, Nat.reduceBeqDiff, Nat.reduceAdd, Nat.reduceLeDiff, Nat.reduceLT, Nat.reduceMul, Nat.reduceSub, Int.reduceEq, Int.reduceBNe, Int.reduceBEq, ne_eq, not_false_eq_true, pc, ls, bs, and_true, true_and, and_self, Nat.reduceAdd, Nat.le_refl, leafP, pi, pj]
  refine CallT.mk f1 ?_
  simp (maxSteps := 10000000) only [↓sx, sx, ↓ty, ↓reduceIte, Nat.reduceEqDiff, Nat.reduceBeqDiff, Nat.reduceAdd, Nat.reduceLeDiff, Nat.reduceLT, Nat.reduceMul, Nat.reduceSub, Int.reduceEq, Int.reduceBNe, Int.reduceBEq, ne_eq, not_false_eq_true, pc, ls, bs, and_true, true_and, and_self, Nat.reduceAdd, Nat.le_refl, leafP, pi, pj]
  refine CallT.mk f2 ?_
  cases h1 : isRat a with
  | false =>
    simp only [Bool.false_and, Bool.false_eq_true, if_false]
    simp (maxSteps := 10000000) only [↓sx, sx, ↓ty, ↓reduceIte, Nat.reduceEqDiff, Nat.reduceBeqDiff, Nat.reduceAdd, Nat.reduceLeDiff, Nat.reduceLT, Nat.reduceMul, Nat.reduceSub, Int.reduceEq, Int.reduceBNe, Int.reduceBEq, ne_eq, not_false_eq_true, pc, ls, bs, and_true, true_and, and_self, Nat.reduceAdd, Nat.le_refl, leafP, pi, pj]
    first | exact ⟨by kernel_rfl, rfl⟩ | kernel_rfl
  | true =>
    cases h2 : isRat b with
    | false =>
      simp only [Bool.and_false, Bool.false_eq_true, if_false]
      simp (maxSteps := 10000000) only [↓sx, sx, ↓ty, ↓reduceIte, Nat.reduceEqDiff, Nat.reduceBeqDiff, Nat.reduceAdd, Nat.reduceLeDiff, Nat.reduceLT, Nat.reduceMul, Nat.reduceSub, Int.reduceEq, Int.reduceBNe, Int.reduceBEq, ne_eq, not_false_eq_true, pc, ls, bs, and_true, true_and, and_self, Nat.reduceAdd, Nat.le_refl, leafP, pi, pj]
      first | exact ⟨by kernel_rfl, rfl⟩ | kernel_rfl
    | true =>
      simp only [Bool.and_self, if_true]
      simp (maxSteps := 10000000) only [↓sx, sx, ↓ty, ↓reduceIte, Nat.reduceEqDiff, Nat.reduceBeqDiff, Nat.reduceAdd, Nat.reduceLeDiff, Nat.reduceLT, Nat.reduceMul, Nat.reduceSub, Int.reduceEq, Int.reduceBNe, Int.reduceBEq, ne_eq, not_false_eq_true, pc, ls, bs, and_true, true_and, and_self, Nat.reduceAdd, Nat.le_refl, leafP, pi, pj]
      first | exact ⟨by kernel_rfl, rfl⟩ | kernel_rfl
end Go.Proofs.YtnlabeglboomlaaGreatDoor.S
namespace Gb
open Go Go.RowKit Go.Sx
end Gb
namespace Go.Proofs.YtnlabeglboomlaaGreatDoor.S
open Go Go.Sx Go.RowKit Gb Go.Shelf
end Go.Proofs.YtnlabeglboomlaaGreatDoor.S
namespace Gb
open Go Go.RowKit Go.Sx
theorem norm_frac {p : Int} {m : Nat} (h : m ≠ 0) : Rat.normalize p m h = (p : Rat) / ((m : Int) : Rat) := by rw [Rat.normalize_eq_mkRat, Rat.mkRat_eq_div]; rfl
theorem u32n {m : Nat} (h : m < 4294967296) : IntKind.u32.wrap (m : Int) = (m : Int) := by rw [IntKind.wrap_u32]; omega
end Gb
namespace Go.Proofs.YtnlabeglboomlaaGreatDoor.S
open Go Go.Sx Go.RowKit Gb Go.Shelf
set_option maxRecDepth 100000 in
theorem frac6_n (p n : Int) (hp1 : -1000 ≤ p) (hp2 : p ≤ 1000) (h1 : 1 ≤ n) (h2 : n ≤ 1000000) : Meets Tryz.prog Gd 134 [iP p, iP n] (qP ((p : Rat) / (n : Rat))) := by
  refine meets_of_vc (Y := {}) (N := 11) (rs := [.cell 4 46]) mix tk gd Tryz.func134 rfl (by kernel_rfl) rfl rfl (by simp) (by kernel_rfl) ?_
  obtain ⟨m, rfl⟩ : ∃ m : Nat, n = (m : Int) := ⟨n.toNat, by omega⟩
  simp (maxSteps := 10000000) only [↓sx, sx, ↓ty, ↓reduceIte, Nat.reduceEqDiff, Nat.reduceBeqDiff, Nat.reduceAdd, Nat.reduceLeDiff, Nat.reduceLT, Nat.reduceMul, Nat.reduceSub, Int.reduceEq, Int.reduceBNe, Int.reduceBEq, ne_eq, not_false_eq_true, pc, ls, bs, and_true, true_and, and_self, Nat.reduceAdd, Nat.le_refl, leafP, pi, pj]
  refine CallT.mk (t := ⟨⟩) (small2_n gd p (by omega) (by omega)) ?_
  simp (maxSteps := 10000000) only [↓sx, sx, ↓ty, ↓reduceIte, Nat.reduceEqDiff, Nat.reduceBeqDiff, Nat.reduceAdd, Nat.reduceLeDiff, Nat.reduceLT, Nat.reduceMul, Nat.reduceSub, Int.reduceEq, Int.reduceBNe, Int.reduceBEq, ne_eq, not_false_eq_true, pc, ls, bs, and_true, true_and, and_self, Nat.reduceAdd, Nat.le_refl, leafP, pi, pj, u32n (show m < 4294967296 by omega)]
  refine CallT.mk (t := ⟨⟩) (small_n gd m (by omega)) ?_
  simp (maxSteps := 10000000) only [↓sx, sx, ↓ty, ↓reduceIte, Nat.reduceEqDiff, Nat.reduceBeqDiff, Nat.reduceAdd, Nat.reduceLeDiff, Nat.reduceLT, Nat.reduceMul, Nat.reduceSub, Int.reduceEq, Int.reduceBNe, Int.reduceBEq, ne_eq, not_false_eq_true, pc, ls, bs, and_true, true_and, and_self, Nat.reduceAdd, Nat.le_refl, leafP, pi, pj]
  refine CallT.to (t := ⟨⟩) (lowest_q gd p m ((p : Rat) / ((m : Int) : Rat)) (by omega) (Nat.lt_of_le_of_lt (Lw_le (k := 1) (by omega)) (by decide)) (Nat.lt_of_le_of_lt (Lw_le (k := 2) (by show m < 1000000000 ^ 2; omega)) (by decide)) (norm_frac _)) rfl ?_
  simp (maxSteps := 10000000) only [↓sx, sx, ↓ty, ↓reduceIte, Nat.reduceEqDiff, Nat.reduceBeqDiff, Nat.reduceAdd, Nat.reduceLeDiff, Nat.reduceLT, Nat.reduceMul, Nat.reduceSub, Int.reduceEq, Int.reduceBNe, Int.reduceBEq, ne_eq, not_false_eq_true, pc, ls, bs, and_true, true_and, and_self, Nat.reduceAdd, Nat.le_refl, leafP, pi, pj]
set_option maxRecDepth 100000 in
theorem mid6_n (x y : Rat) (hx : Sz 10000 x) (hy : Sz 10000 y) : Meets Tryz.prog Gd 103 [qP x, qP y] (qP ((x + y) * (1 / 2))) := by
  refine meets_of_vc (Y := {}) (N := 10) (rs := [.cell 4 46]) mix tk gd Tryz.func103 rfl (by kernel_rfl) rfl rfl (by simp) (by kernel_rfl) ?_
  have F : Meets Tryz.prog Gd 134 [iP 1, iP 2] (qP (1 / 2)) := frac6_n 1 2 (by omega) (by omega) (by omega) (by omega)
  simp (maxSteps := 10000000) only [↓sx, sx, ↓ty, ↓reduceIte, Nat.reduceEqDiff, Nat.reduceBeqDiff, Nat.reduceAdd, Nat.reduceLeDiff, Nat.reduceLT, Nat.reduceMul, Nat.reduceSub, Int.reduceEq, Int.reduceBNe, Int.reduceBEq, ne_eq, not_false_eq_true, pc, ls, bs, and_true, true_and, and_self, Nat.reduceAdd, Nat.le_refl, leafP, pi, pj]
  refine CallT.mk (t := ⟨⟩) (add3_n gd x y (hx.mono (by omega)) (hy.mono (by omega))) ?_
  simp (maxSteps := 10000000) only [↓sx, sx, ↓ty, ↓reduceIte, Nat.reduceEqDiff, Nat.reduceBeqDiff, Nat.reduceAdd, Nat.reduceLeDiff, Nat.reduceLT, Nat.reduceMul, Nat.reduceSub, Int.reduceEq, Int.reduceBNe, Int.reduceBEq, ne_eq, not_false_eq_true, pc, ls, bs, and_true, true_and, and_self, Nat.reduceAdd, Nat.le_refl, leafP, pi, pj]
  refine CallT.mk (t := ⟨⟩) F ?_
  simp (maxSteps := 10000000) only [↓sx, sx, ↓ty, ↓reduceIte, Nat.reduceEqDiff, Nat.reduceBeqDiff, Nat.reduceAdd, Nat.reduceLeDiff, Nat.reduceLT, Nat.reduceMul, Nat.reduceSub, Int.reduceEq, Int.reduceBNe, Int.reduceBEq, ne_eq, not_false_eq_true, pc, ls, bs, and_true, true_and, and_self, Nat.reduceAdd, Nat.le_refl, leafP, pi, pj]
  refine CallT.mk (t := ⟨⟩) (mul3_n gd (x + y) (1 / 2) ((hx.add hy).mono (by omega)) (c12.2.mono (by omega))) ?_
  simp (maxSteps := 10000000) only [↓sx, sx, ↓ty, ↓reduceIte, Nat.reduceEqDiff, Nat.reduceBeqDiff, Nat.reduceAdd, Nat.reduceLeDiff, Nat.reduceLT, Nat.reduceMul, Nat.reduceSub, Int.reduceEq, Int.reduceBNe, Int.reduceBEq, ne_eq, not_false_eq_true, pc, ls, bs, and_true, true_and, and_self, Nat.reduceAdd, Nat.le_refl, leafP, pi, pj]
end Go.Proofs.YtnlabeglboomlaaGreatDoor.S
namespace Gb
open Go Go.RowKit Go.Sx
def clsB (c : UInt8) : Bool := (decide (97 ≤ c.toNat) && decide (c.toNat ≤ 122)) || (decide (65 ≤ c.toNat) && decide (c.toNat ≤ 90)) || (decide (48 ≤ c.toNat) && decide (c.toNat ≤ 57)) || c.toNat == 45 || c.toNat == 46
theorem clsB_eq (c : UInt8) : clsB c = pS letters c := by
  have h : (List.range 256).all (fun n => ((decide (97 ≤ n) && decide (n ≤ 122)) || (decide (65 ≤ n) && decide (n ≤ 90)) || (decide (48 ≤ n) && decide (n ≤ 57)) || n == 45 || n == 46) == inB letters n) = true := by decide +kernel
  have := List.all_eq_true.1 h c.toNat (List.mem_range.2 c.toNat_lt)
  exact eq_of_beq this
theorem rdr {a : List UInt8} (h : isRat a = true) : rd a = ratOf a := by unfold rd; rw [if_pos h]
def short (l : List UInt8) : Bool := decide (l.length ≤ 40)
def shortV (v : Vt) : Bool := short v.x && short v.y && short v.z
def Vt.rd (v : Vt) : Vq := ⟨Gb.rd v.x, Gb.rd v.y, Gb.rd v.z⟩
def vzC (v : Vq) : List PV := [.val (.bool (decide (v.x.num < 0))), .sl (wl v.x.num.natAbs).length ((wl v.x.num.natAbs).map wv), .sl (wl v.x.den).length ((wl v.x.den).map wv),
  .val (.bool (decide (v.y.num < 0))), .sl (wl v.y.num.natAbs).length ((wl v.y.num.natAbs).map wv), .sl (wl v.y.den).length ((wl v.y.den).map wv),
  .val (.bool (decide (v.z.num < 0))), .sl (wl v.z.num.natAbs).length ((wl v.z.num.natAbs).map wv), .sl (wl v.z.den).length ((wl v.z.den).map wv)]
def vzP (v : Vq) : PV := .agg (vzC v)
theorem pz : ∀ v : Vq, vzP v = .agg [.val (.bool (decide (v.x.num < 0))), .sl (wl v.x.num.natAbs).length ((wl v.x.num.natAbs).map wv), .sl (wl v.x.den).length ((wl v.x.den).map wv),
  .val (.bool (decide (v.y.num < 0))), .sl (wl v.y.num.natAbs).length ((wl v.y.num.natAbs).map wv), .sl (wl v.y.den).length ((wl v.y.den).map wv),
  .val (.bool (decide (v.z.num < 0))), .sl (wl v.z.num.natAbs).length ((wl v.z.num.natAbs).map wv), .sl (wl v.z.den).length ((wl v.z.den).map wv)] := fun _ => rfl
end Gb
namespace Go.Proofs.YtnlabeglboomlaaGreatDoor.S
open Go Go.Sx Go.RowKit Gb Go.Shelf
set_option maxRecDepth 100000 in
theorem less3_q (x y : Rat) (hx : Sz 40000 x) (hy : Sz 40000 y) : Meets Tryz.prog Gd 25 [qP x, qP y] (.val (.bool (decide (x < y)))) := by
  refine meets_of_vc (Y := {}) (N := 9) (rs := [.tmp 4]) mix tk gd Tryz.func25 rfl (by kernel_rfl) rfl rfl (by simp) (by kernel_rfl) ?_
  have h : decide ((x - y).num.sign < 0) = decide (x < y) := by congr 1; exact propext (lt_sign x y)
  simp (maxSteps := 10000000) only [↓sx, sx, ↓ty, ↓reduceIte, Nat.reduceEqDiff, Nat.reduceBeqDiff, Nat.reduceAdd, Nat.reduceLeDiff, Nat.reduceLT, Nat.reduceMul, Nat.reduceSub, Int.reduceEq, Int.reduceBNe, Int.reduceBEq, ne_eq, not_false_eq_true, pc, ls, bs, and_true, true_and, and_self, Nat.reduceAdd, Nat.le_refl, leafP, pi, pj]
  refine CallT.mk (t := ⟨⟩) (cmp3_n gd x y hx hy) ?_
  simp (maxSteps := 10000000) only [↓sx, sx, ↓ty, ↓reduceIte, Nat.reduceEqDiff, Nat.reduceBeqDiff, Nat.reduceAdd, Nat.reduceLeDiff, Nat.reduceLT, Nat.reduceMul, Nat.reduceSub, Int.reduceEq, Int.reduceBNe, Int.reduceBEq, ne_eq, not_false_eq_true, pc, ls, bs, and_true, true_and, and_self, Nat.reduceAdd, Nat.le_refl, leafP, pi, pj, h]
set_option maxRecDepth 100000 in
set_option maxHeartbeats 4000000 in
theorem vec16_n (v : Vt) (h : v.lt 80000) : Meets Tryz.prog Gd 33 [vtP v] (.tup [vzP v.rd, .val (.bool v.rat)]) := by
  refine meets_of_vc (Y := {}) (N := 39) (rs := [.cell 2 63, .tmp 3]) mix tk gd Tryz.func33 rfl (by kernel_rfl) rfl rfl (by simp) (by kernel_rfl) ?_
  obtain ⟨l1, l2, l3⟩ := h
  have F1 := from3_n gd v.x (by omega)
  have F2 := from3_n gd v.y (by omega)
  have F3 := from3_n gd v.z (by omega)
  rw [show (if isRat v.x = true then ratOf v.x else 0) = rd v.x from rfl] at F1
  rw [show (if isRat v.y = true then ratOf v.y else 0) = rd v.y from rfl] at F2
  rw [show (if isRat v.z = true then ratOf v.z else 0) = rd v.z from rfl] at F3
  unfold Vt.rat Vt.rd
  generalize rd v.x = x at *
  generalize rd v.y = y at *
  generalize rd v.z = z at *
  simp (maxSteps := 10000000) only [↓sx, sx, ↓ty, ↓reduceIte, Nat.reduceEqDiff, Nat.reduceBeqDiff, Nat.reduceAdd, Nat.reduceLeDiff, Nat.reduceLT, Nat.reduceMul, Nat.reduceSub, Int.reduceEq, Int.reduceBNe, Int.reduceBEq, ne_eq, not_false_eq_true, pc, ls, bs, and_true, true_and, and_self, Nat.reduceAdd, Nat.le_refl, leafP, pv, pj]
  refine CallT.mk (t := ⟨⟩) F1 ?_
  simp (maxSteps := 10000000) only [↓sx, sx, ↓ty, ↓reduceIte, Nat.reduceEqDiff, Nat.reduceBeqDiff, Nat.reduceAdd, Nat.reduceLeDiff, Nat.reduceLT, Nat.reduceMul, Nat.reduceSub, Int.reduceEq, Int.reduceBNe, Int.reduceBEq, ne_eq, not_false_eq_true, pc, ls, bs, and_true, true_and, and_self, Nat.reduceAdd, Nat.le_refl, leafP, pv, pj]
  refine CallT.mk (t := ⟨⟩) F2 ?_
  simp (maxSteps := 10000000) only [↓sx, sx, ↓ty, ↓reduceIte, Nat.reduceEqDiff, Nat.reduceBeqDiff, Nat.reduceAdd, Nat.reduceLeDiff, Nat.reduceLT, Nat.reduceMul, Nat.reduceSub, Int.reduceEq, Int.reduceBNe, Int.reduceBEq, ne_eq, not_false_eq_true, pc, ls, bs, and_true, true_and, and_self, Nat.reduceAdd, Nat.le_refl, leafP, pv, pj]
  refine CallT.mk (t := ⟨⟩) F3 ?_
  cases h1 : isRat v.x with
  | false => simp (maxSteps := 10000000) only [↓sx, sx, ↓ty, ↓reduceIte, Nat.reduceEqDiff, Nat.reduceBeqDiff, Nat.reduceAdd, Nat.reduceLeDiff, Nat.reduceLT, Nat.reduceMul, Nat.reduceSub, Int.reduceEq, Int.reduceBNe, Int.reduceBEq, ne_eq, not_false_eq_true, pc, ls, bs, and_true, true_and, and_self, Nat.reduceAdd, Nat.le_refl, leafP, pv, pj, pz]
  | true =>
    cases h2 : isRat v.y with
    | false => simp (maxSteps := 10000000) only [↓sx, sx, ↓ty, ↓reduceIte, Nat.reduceEqDiff, Nat.reduceBeqDiff, Nat.reduceAdd, Nat.reduceLeDiff, Nat.reduceLT, Nat.reduceMul, Nat.reduceSub, Int.reduceEq, Int.reduceBNe, Int.reduceBEq, ne_eq, not_false_eq_true, pc, ls, bs, and_true, true_and, and_self, Nat.reduceAdd, Nat.le_refl, leafP, pv, pj, pz]
    | true => simp (maxSteps := 10000000) only [↓sx, sx, ↓ty, ↓reduceIte, Nat.reduceEqDiff, Nat.reduceBeqDiff, Nat.reduceAdd, Nat.reduceLeDiff, Nat.reduceLT, Nat.reduceMul, Nat.reduceSub, Int.reduceEq, Int.reduceBNe, Int.reduceBEq, ne_eq, not_false_eq_true, pc, ls, bs, and_true, true_and, and_self, Nat.reduceAdd, Nat.le_refl, leafP, pv, pj, pz]
set_option maxRecDepth 100000 in
theorem short16_n (l : List UInt8) : Meets Tryz.prog Gd 12 [strP l] (.val (.bool (short l))) := by
  refine meets_of_vc (Y := {}) (N := 6) (rs := [.tmp 2]) mix tk gd Tryz.func12 rfl (by kernel_rfl) rfl rfl (by simp) (by kernel_rfl) ?_
  have e : decide (((l.length : Nat) : Int) ≤ 40) = short l := by unfold short; congr 1; apply propext; omega
  simp (maxSteps := 10000000) only [↓sx, sx, ↓ty, ↓reduceIte, Nat.reduceEqDiff, Nat.reduceBeqDiff, Nat.reduceAdd, Nat.reduceLeDiff, Nat.reduceLT, Nat.reduceMul, Nat.reduceSub, Int.reduceEq, Int.reduceBNe, Int.reduceBEq, ne_eq, not_false_eq_true, pc, ls, bs, and_true, true_and, and_self, Nat.reduceAdd, Nat.le_refl, leafP, e]
set_option maxRecDepth 100000 in
theorem shortV16_n (v : Vt) : Meets Tryz.prog Gd 34 [vtP v] (.val (.bool (shortV v))) := by
  refine meets_of_vc (Y := {}) (N := 16) (rs := [.tmp 2]) mix tk gd Tryz.func34 rfl (by kernel_rfl) rfl rfl (by simp) (by kernel_rfl) ?_
  unfold shortV
  simp (maxSteps := 10000000) only [↓sx, sx, ↓ty, ↓reduceIte, Nat.reduceEqDiff, Nat.reduceBeqDiff, Nat.reduceAdd, Nat.reduceLeDiff, Nat.reduceLT, Nat.reduceMul, Nat.reduceSub, Int.reduceEq, Int.reduceBNe, Int.reduceBEq, ne_eq, not_false_eq_true, pc, ls, bs, and_true, true_and, and_self, Nat.reduceAdd, Nat.le_refl, leafP, pv]
  refine CallT.mk (t := ⟨⟩) (short16_n v.x) ?_
  cases h1 : short v.x with
  | false => simp (maxSteps := 10000000) only [↓sx, sx, ↓ty, ↓reduceIte, Nat.reduceEqDiff, Nat.reduceBeqDiff, Nat.reduceAdd, Nat.reduceLeDiff, Nat.reduceLT, Nat.reduceMul, Nat.reduceSub, Int.reduceEq, Int.reduceBNe, Int.reduceBEq, ne_eq, not_false_eq_true, pc, ls, bs, and_true, true_and, and_self, Nat.reduceAdd, Nat.le_refl, leafP]
  | true =>
    simp (maxSteps := 10000000) only [↓sx, sx, ↓ty, ↓reduceIte, Nat.reduceEqDiff, Nat.reduceBeqDiff, Nat.reduceAdd, Nat.reduceLeDiff, Nat.reduceLT, Nat.reduceMul, Nat.reduceSub, Int.reduceEq, Int.reduceBNe, Int.reduceBEq, ne_eq, not_false_eq_true, pc, ls, bs, and_true, true_and, and_self, Nat.reduceAdd, Nat.le_refl, leafP, pv]
    refine CallT.mk (t := ⟨⟩) (short16_n v.y) ?_
    cases h2 : short v.y with
    | false => simp (maxSteps := 10000000) only [↓sx, sx, ↓ty, ↓reduceIte, Nat.reduceEqDiff, Nat.reduceBeqDiff, Nat.reduceAdd, Nat.reduceLeDiff, Nat.reduceLT, Nat.reduceMul, Nat.reduceSub, Int.reduceEq, Int.reduceBNe, Int.reduceBEq, ne_eq, not_false_eq_true, pc, ls, bs, and_true, true_and, and_self, Nat.reduceAdd, Nat.le_refl, leafP]
    | true =>
      simp (maxSteps := 10000000) only [↓sx, sx, ↓ty, ↓reduceIte, Nat.reduceEqDiff, Nat.reduceBeqDiff, Nat.reduceAdd, Nat.reduceLeDiff, Nat.reduceLT, Nat.reduceMul, Nat.reduceSub, Int.reduceEq, Int.reduceBNe, Int.reduceBEq, ne_eq, not_false_eq_true, pc, ls, bs, and_true, true_and, and_self, Nat.reduceAdd, Nat.le_refl, leafP, pv]
      refine CallT.mk (t := ⟨⟩) (short16_n v.z) ?_
      simp (maxSteps := 10000000) only [↓sx, sx, ↓ty, ↓reduceIte, Nat.reduceEqDiff, Nat.reduceBeqDiff, Nat.reduceAdd, Nat.reduceLeDiff, Nat.reduceLT, Nat.reduceMul, Nat.reduceSub, Int.reduceEq, Int.reduceBNe, Int.reduceBEq, ne_eq, not_false_eq_true, pc, ls, bs, and_true, true_and, and_self, Nat.reduceAdd, Nat.le_refl, leafP]
set_option maxRecDepth 100000 in
set_option maxHeartbeats 8000000 in
theorem named22_n (l : List UInt8) (hl : l.length < 1000000) : Meets Tryz.prog Gd 102 [strP l] (.val (.bool (namB l))) := by
  refine meets_of_vc (Y := {}) (N := 53) (rs := [.tmp 2]) mix tk gd Tryz.func102 rfl (by kernel_rfl) rfl rfl (by simp) (by kernel_rfl) ?_
  simp (maxSteps := 10000000) only [↓sx, sx, ↓ty, ↓reduceIte, Nat.reduceEqDiff, Nat.reduceBeqDiff, Nat.reduceAdd, Nat.reduceLeDiff, Nat.reduceLT, Nat.reduceMul, Nat.reduceSub, Int.reduceEq, Int.reduceBNe, Int.reduceBEq, ne_eq, not_false_eq_true, pc, ls, bs, and_true, true_and, and_self, Nat.reduceAdd, Nat.le_refl, leafP]
  refine loopK_of (fun i : Nat => [(0, .p (strP l)), (2, .p (.val (.bool false))), (6, .p (.val (.int .i64 (l.length : Nat)))), (7, .p (.val (.int .i64 (i : Nat))))]) (fun _ => []) (fun _ => []) (fun i => i ≤ l.length ∧ ∀ y ∈ l.take i, pS letters y = true) (fun i => l.length - i) 0 ⟨Nat.zero_le _, by simp⟩ ?_ ?_
  · simp (maxSteps := 10000000) only [isE_nil, is_cons, bo_p, bo_box, bo_orow, bo_rowp, any_cons', all_cons', all_nil', Bool.true_or, Bool.or_true, ↓sx, sx, ↓reduceIte, Nat.reduceEqDiff, Nat.reduceBeqDiff]
    first | trivial | rfl | exact ⟨rfl, rfl⟩ | exact ⟨rfl, rfl, rfl⟩ | exact ⟨rfl, rfl, rfl, rfl⟩ | exact ⟨rfl, rfl, rfl, rfl, rfl⟩
  · rintro i ⟨hi, hv⟩
    by_cases hil : i < l.length
    · have e0 : decide ((i : Int) < ((l.length : Nat) : Int)) = true := decide_eq_true (by omega)
      obtain ⟨c, hc⟩ : ∃ c, l[i]? = some c := ⟨l[i], List.getElem?_eq_getElem hil⟩
      have hm : c ∈ l := List.mem_of_getElem? hc
      have hlt : c.toNat < 256 := c.toNat_lt
      have fl : pS letters c = false → namB l = false := fun h => by
        unfold namB
        rw [show l.all (pS letters) = false from List.all_eq_false.2 ⟨c, hm, by rw [h]; decide⟩, Bool.and_false]
      simp (maxSteps := 10000000) only [↓sx, sx, ↓ty, ↓reduceIte, Nat.reduceEqDiff, Nat.reduceBeqDiff, Nat.reduceAdd, Nat.reduceLeDiff, Nat.reduceLT, Nat.reduceMul, Nat.reduceSub, Int.reduceEq, Int.reduceBNe, Int.reduceBEq, ne_eq, not_false_eq_true, pc, ls, bs, and_true, true_and, and_self, Nat.reduceAdd, Nat.le_refl, leafP, e0, getD_get, hc, Option.getD_some]
      refine ⟨⟨by omega, hil⟩, ?_⟩
      rcases (show (0 ≤ c.toNat ∧ c.toNat ≤ 44) ∨ (45 ≤ c.toNat ∧ c.toNat ≤ 45) ∨ (46 ≤ c.toNat ∧ c.toNat ≤ 46) ∨ (47 ≤ c.toNat ∧ c.toNat ≤ 47) ∨ (48 ≤ c.toNat ∧ c.toNat ≤ 57) ∨ (58 ≤ c.toNat ∧ c.toNat ≤ 64) ∨ (65 ≤ c.toNat ∧ c.toNat ≤ 90) ∨ (91 ≤ c.toNat ∧ c.toNat ≤ 96) ∨ (97 ≤ c.toNat ∧ c.toNat ≤ 122) ∨ (123 ≤ c.toNat ∧ c.toNat ≤ 255) by omega) with h | h | h | h | h | h | h | h | h | h
      · have e1 : decide (((c.toNat : Nat) : Int) ≥ 97) = false := decide_eq_false (by omega)
        have e2 : decide (((c.toNat : Nat) : Int) ≤ 122) = true := decide_eq_true (by omega)
        have e3 : decide (((c.toNat : Nat) : Int) ≥ 65) = false := decide_eq_false (by omega)
        have e4 : decide (((c.toNat : Nat) : Int) ≤ 90) = true := decide_eq_true (by omega)
        have e5 : decide (((c.toNat : Nat) : Int) ≥ 48) = false := decide_eq_false (by omega)
        have e6 : decide (((c.toNat : Nat) : Int) ≤ 57) = true := decide_eq_true (by omega)
        have e7 : (((c.toNat : Nat) : Int) == 45) = false := by rw [beq_eq_false_iff_ne]; omega
        have e8 : (((c.toNat : Nat) : Int) == 46) = false := by rw [beq_eq_false_iff_ne]; omega
        have ec : pS letters c = false := by rw [← clsB_eq c]; unfold clsB; simp; omega
        simp (maxSteps := 10000000) only [↓sx, sx, ↓ty, ↓reduceIte, Nat.reduceEqDiff, Nat.reduceBeqDiff, Nat.reduceAdd, Nat.reduceLeDiff, Nat.reduceLT, Nat.reduceMul, Nat.reduceSub, Int.reduceEq, Int.reduceBNe, Int.reduceBEq, ne_eq, not_false_eq_true, pc, ls, bs, and_true, true_and, and_self, Nat.reduceAdd, Nat.le_refl, leafP, e1, e2, e3, e4, e5, e6, e7, e8]
        rw [fl ec]
      · have e1 : decide (((c.toNat : Nat) : Int) ≥ 97) = false := decide_eq_false (by omega)
        have e2 : decide (((c.toNat : Nat) : Int) ≤ 122) = true := decide_eq_true (by omega)
        have e3 : decide (((c.toNat : Nat) : Int) ≥ 65) = false := decide_eq_false (by omega)
        have e4 : decide (((c.toNat : Nat) : Int) ≤ 90) = true := decide_eq_true (by omega)
        have e5 : decide (((c.toNat : Nat) : Int) ≥ 48) = false := decide_eq_false (by omega)
        have e6 : decide (((c.toNat : Nat) : Int) ≤ 57) = true := decide_eq_true (by omega)
        have e7 : (((c.toNat : Nat) : Int) == 45) = true := by rw [beq_iff_eq]; omega
        have e8 : (((c.toNat : Nat) : Int) == 46) = false := by rw [beq_eq_false_iff_ne]; omega
        have ec : pS letters c = true := by rw [← clsB_eq c]; unfold clsB; simp; omega
        simp (maxSteps := 10000000) only [↓sx, sx, ↓ty, ↓reduceIte, Nat.reduceEqDiff, Nat.reduceBeqDiff, Nat.reduceAdd, Nat.reduceLeDiff, Nat.reduceLT, Nat.reduceMul, Nat.reduceSub, Int.reduceEq, Int.reduceBNe, Int.reduceBEq, ne_eq, not_false_eq_true, pc, ls, bs, and_true, true_and, and_self, Nat.reduceAdd, Nat.le_refl, leafP, e1, e2, e3, e4, e5, e6, e7, e8]
        refine NextK.mk (i + 1) (by omega) ⟨by omega, ?_⟩ ?_
        · intro y hy
          rw [take_snocA hc] at hy
          rcases List.mem_append.1 hy with hy | hy
          · exact hv y hy
          · rw [List.mem_singleton] at hy; rw [hy]; exact ec
        · simp (maxSteps := 10000000) only [isE_nil, is_cons, bo_p, bo_box, bo_orow, bo_rowp, any_cons', all_cons', all_nil', Bool.true_or, Bool.or_true, ↓sx, sx, ↓reduceIte, Nat.reduceEqDiff, Nat.reduceBeqDiff]
          rw [i64_id (by omega) (by omega)]
          first | trivial | rfl | exact ⟨rfl, rfl⟩ | exact ⟨rfl, rfl, rfl⟩ | exact ⟨rfl, rfl, rfl, rfl⟩ | exact ⟨rfl, rfl, rfl, rfl, rfl⟩
      · have e1 : decide (((c.toNat : Nat) : Int) ≥ 97) = false := decide_eq_false (by omega)
        have e2 : decide (((c.toNat : Nat) : Int) ≤ 122) = true := decide_eq_true (by omega)
        have e3 : decide (((c.toNat : Nat) : Int) ≥ 65) = false := decide_eq_false (by omega)
        have e4 : decide (((c.toNat : Nat) : Int) ≤ 90) = true := decide_eq_true (by omega)
        have e5 : decide (((c.toNat : Nat) : Int) ≥ 48) = false := decide_eq_false (by omega)
        have e6 : decide (((c.toNat : Nat) : Int) ≤ 57) = true := decide_eq_true (by omega)
        have e7 : (((c.toNat : Nat) : Int) == 45) = false := by rw [beq_eq_false_iff_ne]; omega
        have e8 : (((c.toNat : Nat) : Int) == 46) = true := by rw [beq_iff_eq]; omega
        have ec : pS letters c = true := by rw [← clsB_eq c]; unfold clsB; simp; omega
        simp (maxSteps := 10000000) only [↓sx, sx, ↓ty, ↓reduceIte, Nat.reduceEqDiff, Nat.reduceBeqDiff, Nat.reduceAdd, Nat.reduceLeDiff, Nat.reduceLT, Nat.reduceMul, Nat.reduceSub, Int.reduceEq, Int.reduceBNe, Int.reduceBEq, ne_eq, not_false_eq_true, pc, ls, bs, and_true, true_and, and_self, Nat.reduceAdd, Nat.le_refl, leafP, e1, e2, e3, e4, e5, e6, e7, e8]
        refine NextK.mk (i + 1) (by omega) ⟨by omega, ?_⟩ ?_
        · intro y hy
          rw [take_snocA hc] at hy
          rcases List.mem_append.1 hy with hy | hy
          · exact hv y hy
          · rw [List.mem_singleton] at hy; rw [hy]; exact ec
        · simp (maxSteps := 10000000) only [isE_nil, is_cons, bo_p, bo_box, bo_orow, bo_rowp, any_cons', all_cons', all_nil', Bool.true_or, Bool.or_true, ↓sx, sx, ↓reduceIte, Nat.reduceEqDiff, Nat.reduceBeqDiff]
          rw [i64_id (by omega) (by omega)]
          first | trivial | rfl | exact ⟨rfl, rfl⟩ | exact ⟨rfl, rfl, rfl⟩ | exact ⟨rfl, rfl, rfl, rfl⟩ | exact ⟨rfl, rfl, rfl, rfl, rfl⟩
      · have e1 : decide (((c.toNat : Nat) : Int) ≥ 97) = false := decide_eq_false (by omega)
        have e2 : decide (((c.toNat : Nat) : Int) ≤ 122) = true := decide_eq_true (by omega)
        have e3 : decide (((c.toNat : Nat) : Int) ≥ 65) = false := decide_eq_false (by omega)
        have e4 : decide (((c.toNat : Nat) : Int) ≤ 90) = true := decide_eq_true (by omega)
        have e5 : decide (((c.toNat : Nat) : Int) ≥ 48) = false := decide_eq_false (by omega)
        have e6 : decide (((c.toNat : Nat) : Int) ≤ 57) = true := decide_eq_true (by omega)
        have e7 : (((c.toNat : Nat) : Int) == 45) = false := by rw [beq_eq_false_iff_ne]; omega
        have e8 : (((c.toNat : Nat) : Int) == 46) = false := by rw [beq_eq_false_iff_ne]; omega
        have ec : pS letters c = false := by rw [← clsB_eq c]; unfold clsB; simp; omega
        simp (maxSteps := 10000000) only [↓sx, sx, ↓ty, ↓reduceIte, Nat.reduceEqDiff, Nat.reduceBeqDiff, Nat.reduceAdd, Nat.reduceLeDiff, Nat.reduceLT, Nat.reduceMul, Nat.reduceSub, Int.reduceEq, Int.reduceBNe, Int.reduceBEq, ne_eq, not_false_eq_true, pc, ls, bs, and_true, true_and, and_self, Nat.reduceAdd, Nat.le_refl, leafP, e1, e2, e3, e4, e5, e6, e7, e8]
        rw [fl ec]
      · have e1 : decide (((c.toNat : Nat) : Int) ≥ 97) = false := decide_eq_false (by omega)
        have e2 : decide (((c.toNat : Nat) : Int) ≤ 122) = true := decide_eq_true (by omega)
        have e3 : decide (((c.toNat : Nat) : Int) ≥ 65) = false := decide_eq_false (by omega)
        have e4 : decide (((c.toNat : Nat) : Int) ≤ 90) = true := decide_eq_true (by omega)
        have e5 : decide (((c.toNat : Nat) : Int) ≥ 48) = true := decide_eq_true (by omega)
        have e6 : decide (((c.toNat : Nat) : Int) ≤ 57) = true := decide_eq_true (by omega)
        have e7 : (((c.toNat : Nat) : Int) == 45) = false := by rw [beq_eq_false_iff_ne]; omega
        have e8 : (((c.toNat : Nat) : Int) == 46) = false := by rw [beq_eq_false_iff_ne]; omega
        have ec : pS letters c = true := by rw [← clsB_eq c]; unfold clsB; simp; omega
        simp (maxSteps := 10000000) only [↓sx, sx, ↓ty, ↓reduceIte, Nat.reduceEqDiff, Nat.reduceBeqDiff, Nat.reduceAdd, Nat.reduceLeDiff, Nat.reduceLT, Nat.reduceMul, Nat.reduceSub, Int.reduceEq, Int.reduceBNe, Int.reduceBEq, ne_eq, not_false_eq_true, pc, ls, bs, and_true, true_and, and_self, Nat.reduceAdd, Nat.le_refl, leafP, e1, e2, e3, e4, e5, e6, e7, e8]
        refine NextK.mk (i + 1) (by omega) ⟨by omega, ?_⟩ ?_
        · intro y hy
          rw [take_snocA hc] at hy
          rcases List.mem_append.1 hy with hy | hy
          · exact hv y hy
          · rw [List.mem_singleton] at hy; rw [hy]; exact ec
        · simp (maxSteps := 10000000) only [isE_nil, is_cons, bo_p, bo_box, bo_orow, bo_rowp, any_cons', all_cons', all_nil', Bool.true_or, Bool.or_true, ↓sx, sx, ↓reduceIte, Nat.reduceEqDiff, Nat.reduceBeqDiff]
          rw [i64_id (by omega) (by omega)]
          first | trivial | rfl | exact ⟨rfl, rfl⟩ | exact ⟨rfl, rfl, rfl⟩ | exact ⟨rfl, rfl, rfl, rfl⟩ | exact ⟨rfl, rfl, rfl, rfl, rfl⟩
      · have e1 : decide (((c.toNat : Nat) : Int) ≥ 97) = false := decide_eq_false (by omega)
        have e2 : decide (((c.toNat : Nat) : Int) ≤ 122) = true := decide_eq_true (by omega)
        have e3 : decide (((c.toNat : Nat) : Int) ≥ 65) = false := decide_eq_false (by omega)
        have e4 : decide (((c.toNat : Nat) : Int) ≤ 90) = true := decide_eq_true (by omega)
        have e5 : decide (((c.toNat : Nat) : Int) ≥ 48) = true := decide_eq_true (by omega)
        have e6 : decide (((c.toNat : Nat) : Int) ≤ 57) = false := decide_eq_false (by omega)
        have e7 : (((c.toNat : Nat) : Int) == 45) = false := by rw [beq_eq_false_iff_ne]; omega
        have e8 : (((c.toNat : Nat) : Int) == 46) = false := by rw [beq_eq_false_iff_ne]; omega
        have ec : pS letters c = false := by rw [← clsB_eq c]; unfold clsB; simp; omega
        simp (maxSteps := 10000000) only [↓sx, sx, ↓ty, ↓reduceIte, Nat.reduceEqDiff, Nat.reduceBeqDiff, Nat.reduceAdd, Nat.reduceLeDiff, Nat.reduceLT, Nat.reduceMul, Nat.reduceSub, Int.reduceEq, Int.reduceBNe, Int.reduceBEq, ne_eq, not_false_eq_true, pc, ls, bs, and_true, true_and, and_self, Nat.reduceAdd, Nat.le_refl, leafP, e1, e2, e3, e4, e5, e6, e7, e8]
        rw [fl ec]
      · have e1 : decide (((c.toNat : Nat) : Int) ≥ 97) = false := decide_eq_false (by omega)
        have e2 : decide (((c.toNat : Nat) : Int) ≤ 122) = true := decide_eq_true (by omega)
        have e3 : decide (((c.toNat : Nat) : Int) ≥ 65) = true := decide_eq_true (by omega)
        have e4 : decide (((c.toNat : Nat) : Int) ≤ 90) = true := decide_eq_true (by omega)
        have e5 : decide (((c.toNat : Nat) : Int) ≥ 48) = true := decide_eq_true (by omega)
        have e6 : decide (((c.toNat : Nat) : Int) ≤ 57) = false := decide_eq_false (by omega)
        have e7 : (((c.toNat : Nat) : Int) == 45) = false := by rw [beq_eq_false_iff_ne]; omega
        have e8 : (((c.toNat : Nat) : Int) == 46) = false := by rw [beq_eq_false_iff_ne]; omega
        have ec : pS letters c = true := by rw [← clsB_eq c]; unfold clsB; simp; omega
        simp (maxSteps := 10000000) only [↓sx, sx, ↓ty, ↓reduceIte, Nat.reduceEqDiff, Nat.reduceBeqDiff, Nat.reduceAdd, Nat.reduceLeDiff, Nat.reduceLT, Nat.reduceMul, Nat.reduceSub, Int.reduceEq, Int.reduceBNe, Int.reduceBEq, ne_eq, not_false_eq_true, pc, ls, bs, and_true, true_and, and_self, Nat.reduceAdd, Nat.le_refl, leafP, e1, e2, e3, e4, e5, e6, e7, e8]
        refine NextK.mk (i + 1) (by omega) ⟨by omega, ?_⟩ ?_
        · intro y hy
          rw [take_snocA hc] at hy
          rcases List.mem_append.1 hy with hy | hy
          · exact hv y hy
          · rw [List.mem_singleton] at hy; rw [hy]; exact ec
        · simp (maxSteps := 10000000) only [isE_nil, is_cons, bo_p, bo_box, bo_orow, bo_rowp, any_cons', all_cons', all_nil', Bool.true_or, Bool.or_true, ↓sx, sx, ↓reduceIte, Nat.reduceEqDiff, Nat.reduceBeqDiff]
          rw [i64_id (by omega) (by omega)]
          first | trivial | rfl | exact ⟨rfl, rfl⟩ | exact ⟨rfl, rfl, rfl⟩ | exact ⟨rfl, rfl, rfl, rfl⟩ | exact ⟨rfl, rfl, rfl, rfl, rfl⟩
      · have e1 : decide (((c.toNat : Nat) : Int) ≥ 97) = false := decide_eq_false (by omega)
        have e2 : decide (((c.toNat : Nat) : Int) ≤ 122) = true := decide_eq_true (by omega)
        have e3 : decide (((c.toNat : Nat) : Int) ≥ 65) = true := decide_eq_true (by omega)
        have e4 : decide (((c.toNat : Nat) : Int) ≤ 90) = false := decide_eq_false (by omega)
        have e5 : decide (((c.toNat : Nat) : Int) ≥ 48) = true := decide_eq_true (by omega)
        have e6 : decide (((c.toNat : Nat) : Int) ≤ 57) = false := decide_eq_false (by omega)
        have e7 : (((c.toNat : Nat) : Int) == 45) = false := by rw [beq_eq_false_iff_ne]; omega
        have e8 : (((c.toNat : Nat) : Int) == 46) = false := by rw [beq_eq_false_iff_ne]; omega
        have ec : pS letters c = false := by rw [← clsB_eq c]; unfold clsB; simp; omega
        simp (maxSteps := 10000000) only [↓sx, sx, ↓ty, ↓reduceIte, Nat.reduceEqDiff, Nat.reduceBeqDiff, Nat.reduceAdd, Nat.reduceLeDiff, Nat.reduceLT, Nat.reduceMul, Nat.reduceSub, Int.reduceEq, Int.reduceBNe, Int.reduceBEq, ne_eq, not_false_eq_true, pc, ls, bs, and_true, true_and, and_self, Nat.reduceAdd, Nat.le_refl, leafP, e1, e2, e3, e4, e5, e6, e7, e8]
        rw [fl ec]
      · have e1 : decide (((c.toNat : Nat) : Int) ≥ 97) = true := decide_eq_true (by omega)
        have e2 : decide (((c.toNat : Nat) : Int) ≤ 122) = true := decide_eq_true (by omega)
        have e3 : decide (((c.toNat : Nat) : Int) ≥ 65) = true := decide_eq_true (by omega)
        have e4 : decide (((c.toNat : Nat) : Int) ≤ 90) = false := decide_eq_false (by omega)
        have e5 : decide (((c.toNat : Nat) : Int) ≥ 48) = true := decide_eq_true (by omega)
        have e6 : decide (((c.toNat : Nat) : Int) ≤ 57) = false := decide_eq_false (by omega)
        have e7 : (((c.toNat : Nat) : Int) == 45) = false := by rw [beq_eq_false_iff_ne]; omega
        have e8 : (((c.toNat : Nat) : Int) == 46) = false := by rw [beq_eq_false_iff_ne]; omega
        have ec : pS letters c = true := by rw [← clsB_eq c]; unfold clsB; simp; omega
        simp (maxSteps := 10000000) only [↓sx, sx, ↓ty, ↓reduceIte, Nat.reduceEqDiff, Nat.reduceBeqDiff, Nat.reduceAdd, Nat.reduceLeDiff, Nat.reduceLT, Nat.reduceMul, Nat.reduceSub, Int.reduceEq, Int.reduceBNe, Int.reduceBEq, ne_eq, not_false_eq_true, pc, ls, bs, and_true, true_and, and_self, Nat.reduceAdd, Nat.le_refl, leafP, e1, e2, e3, e4, e5, e6, e7, e8]
        refine NextK.mk (i + 1) (by omega) ⟨by omega, ?_⟩ ?_
        · intro y hy
          rw [take_snocA hc] at hy
          rcases List.mem_append.1 hy with hy | hy
          · exact hv y hy
          · rw [List.mem_singleton] at hy; rw [hy]; exact ec
        · simp (maxSteps := 10000000) only [isE_nil, is_cons, bo_p, bo_box, bo_orow, bo_rowp, any_cons', all_cons', all_nil', Bool.true_or, Bool.or_true, ↓sx, sx, ↓reduceIte, Nat.reduceEqDiff, Nat.reduceBeqDiff]
          rw [i64_id (by omega) (by omega)]
          first | trivial | rfl | exact ⟨rfl, rfl⟩ | exact ⟨rfl, rfl, rfl⟩ | exact ⟨rfl, rfl, rfl, rfl⟩ | exact ⟨rfl, rfl, rfl, rfl, rfl⟩
      · have e1 : decide (((c.toNat : Nat) : Int) ≥ 97) = true := decide_eq_true (by omega)
        have e2 : decide (((c.toNat : Nat) : Int) ≤ 122) = false := decide_eq_false (by omega)
        have e3 : decide (((c.toNat : Nat) : Int) ≥ 65) = true := decide_eq_true (by omega)
        have e4 : decide (((c.toNat : Nat) : Int) ≤ 90) = false := decide_eq_false (by omega)
        have e5 : decide (((c.toNat : Nat) : Int) ≥ 48) = true := decide_eq_true (by omega)
        have e6 : decide (((c.toNat : Nat) : Int) ≤ 57) = false := decide_eq_false (by omega)
        have e7 : (((c.toNat : Nat) : Int) == 45) = false := by rw [beq_eq_false_iff_ne]; omega
        have e8 : (((c.toNat : Nat) : Int) == 46) = false := by rw [beq_eq_false_iff_ne]; omega
        have ec : pS letters c = false := by rw [← clsB_eq c]; unfold clsB; simp; omega
        simp (maxSteps := 10000000) only [↓sx, sx, ↓ty, ↓reduceIte, Nat.reduceEqDiff, Nat.reduceBeqDiff, Nat.reduceAdd, Nat.reduceLeDiff, Nat.reduceLT, Nat.reduceMul, Nat.reduceSub, Int.reduceEq, Int.reduceBNe, Int.reduceBEq, ne_eq, not_false_eq_true, pc, ls, bs, and_true, true_and, and_self, Nat.reduceAdd, Nat.le_refl, leafP, e1, e2, e3, e4, e5, e6, e7, e8]
        rw [fl ec]
    · obtain rfl : i = l.length := by omega
      rw [List.take_length] at hv
      have e0 : decide (((l.length : Nat) : Int) < ((l.length : Nat) : Int)) = false := decide_eq_false (by omega)
      have ha : l.all (pS letters) = true := List.all_eq_true.2 hv
      unfold namB
      rw [ha]
      by_cases h1 : 1 ≤ l.length
      · have d1 : decide (((l.length : Nat) : Int) ≥ 1) = true := decide_eq_true (by omega)
        have d2 : decide (((l.length : Nat) : Int) ≤ 64) = decide (l.length ≤ 64) := by congr 1; apply propext; omega
        rw [decide_eq_true h1]
        simp (maxSteps := 10000000) only [↓sx, sx, ↓ty, ↓reduceIte, Nat.reduceEqDiff, Nat.reduceBeqDiff, Nat.reduceAdd, Nat.reduceLeDiff, Nat.reduceLT, Nat.reduceMul, Nat.reduceSub, Int.reduceEq, Int.reduceBNe, Int.reduceBEq, ne_eq, not_false_eq_true, pc, ls, bs, and_true, true_and, and_self, Nat.reduceAdd, Nat.le_refl, leafP, e0, d1, d2]
      · have d1 : decide (((l.length : Nat) : Int) ≥ 1) = false := decide_eq_false (by omega)
        rw [decide_eq_false h1]
        simp (maxSteps := 10000000) only [↓sx, sx, ↓ty, ↓reduceIte, Nat.reduceEqDiff, Nat.reduceBeqDiff, Nat.reduceAdd, Nat.reduceLeDiff, Nat.reduceLT, Nat.reduceMul, Nat.reduceSub, Int.reduceEq, Int.reduceBNe, Int.reduceBEq, ne_eq, not_false_eq_true, pc, ls, bs, and_true, true_and, and_self, Nat.reduceAdd, Nat.le_refl, leafP, e0, d1]
end Go.Proofs.YtnlabeglboomlaaGreatDoor.S
