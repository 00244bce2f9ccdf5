/- A part of a proof; the last text of this claim says of what. -/
import Derived.Test.YtnlabeglboomlaaGreatDoorV27
import Derived.Test.YtnlabeglboomlaaGreatDoorProg
import Derived.WalkKit
import Derived.RangeFuncBox
import Derived.RangeFuncLeaves
import Derived.Shelf.Abstract
import Derived.OwnWalkIn
import Derived.TacticsInMore
import Derived.LoopNIn
import Derived.LoopIn
import Derived.Lib.Walk
import Derived.Lib.ItoaMem
import Derived.Lib.AppendIntMem
import Derived.BigCall
import Derived.BigGuard
import Derived.Below
import Derived.Shelf.Strings.BuilderK
import Derived.Lib.OthersKept
import Derived.RangeFuncCalls
import Derived.RangeFuncWrites
import Derived.MapKept
import Derived.Carry
import Derived.Lib.Bytealg
import Derived.Lib.ParseIntB
import Derived.RegionIn
import Derived.Stop.RegionWithIn
import Derived.Lib.Repeat
set_option linter.unusedVariables false
set_option linter.unusedSimpArgs false
set_option linter.unusedSectionVars false
namespace Go.Proofs.YtnlabeglboomlaaGreatDoor.S
open Go Go.Sx Go.RowKit Gb
variable {G : World → Prop} (hG : ∀ w w', G w → Below w.heap.size w w' → G w')
include hG
set_option maxRecDepth 100000 in
set_option maxHeartbeats 8000000 in
theorem nby_n (a w : Nat) (ha : Lw a < 1000000) (hw0 : 0 < w) (hw1 : w < 1000000000) : Meets Tryz.prog G 209 [nP a, .val (.int .u64 w)] (.tup [nP (a / w), nP (a % w)]) := by
  refine meets_of_vc (Y := {}) (N := 41) (rs := [.tmp 4, .tmp 5]) mix tk hG Tryz.func209 rfl (by kernel_rfl) rfl rfl (by simp) (by kernel_rfl) ?_
  unfold Lw at ha
  rw [show nP a = .sl (wl a).length ((wl a).map wv) from rfl]
  have hA := wl_norm a
  have hva := wl_val a
  generalize wl a = A at *
  simp (maxSteps := 10000000) only [↓sx, sx, ↓ty, ↓reduceIte, Nat.reduceEqDiff]
  have hw : IntKind.i64.wrap ((A.length : Int) - 1) = (A.length : Int) - 1 := i64_id (by omega) (by omega)
  rw [hw]
  refine ⟨by omega, ?_⟩
  refine loopK_of (fun s : List Int × Int × Nat => [(0, .p (.sl A.length (A.map wv))), (1, .p (.val (.int .u64 w))), (6, .orow 11), (7, .p (.val (.int .u64 s.2.1))), (8, .p (.val (.int .i64 ((s.2.2 : Int) - 1))))]) (fun _ => []) (fun s => [(11, ⟨95, 1, s.1.length, s.1.map wv, false⟩)]) (smallInv A w) (fun s => s.2.2) (List.replicate A.length 0, 0, A.length) ?_ ?_ ?_
  · refine ⟨Nat.le_refl _, Dig.replicate _, by simp, fun j _ => Zf.replicate _ 0 j (Nat.zero_le _), Int.le_refl _, by dsimp only; omega, ?_⟩
    simp [val_replicate]
  · simp (maxSteps := 10000000) only [isE_nil, is_cons, bo_p, bo_orow, any_cons', all_cons', all_nil', Bool.true_or, ↓sx, sx, ↓reduceIte, Nat.reduceEqDiff]
    simp [rep_wv]
  · rintro ⟨out, r, n⟩ ⟨h1, h2, h3, h4, h5, h5b, h6⟩
    dsimp only at h1 h2 h3 h4 h5 h5b h6 ⊢
    simp (maxSteps := 10000000) only [↓sx, sx, ↓ty, ↓reduceIte, Nat.reduceEqDiff, Nat.reduceAdd, wv_c]
    refine vcIf_dec (fun h => ?_) (fun h => ?_)
    · obtain ⟨m, rfl⟩ : ∃ m, n = m + 1 := ⟨n - 1, by omega⟩
      rw [show (((m + 1 : Nat) : Int) - 1) = (m : Int) by omega]
      simp only [Int.toNat_natCast]
      have hx := hA.1.getD m
      obtain ⟨s0, s1, s2, s3, s4, s5, s6⟩ := by_step (r := r) (x := A.getD m 0) (w := (w : Int)) ⟨h5, h5b⟩ hx (by omega)
      rw [u64_id (x := A.getD m 0) (by omega) (by omega), u64_id (x := r * 1000000000) (by omega) (by omega), u64_id (x := r * 1000000000 + A.getD m 0) (by omega) (by omega), tdiv_pos s0, tmod_pos s0, u64_id (x := (r * 1000000000 + A.getD m 0) / w) (by omega) (by omega), u32_id (x := (r * 1000000000 + A.getD m 0) / w) (by omega) (by omega)]
      refine ⟨by omega, by omega, by omega, by omega, by omega, by omega, ?_⟩
      refine NextK.mk (out.set m ((r * 1000000000 + A.getD m 0) / w), (r * 1000000000 + A.getD m 0) % w, m) (by dsimp only; omega) ⟨by dsimp only; omega, h2.set _ s2 s3, by simp [h3], (fun j hj => by dsimp only at hj ⊢; rw [Gb.getD_set_ne _ _ _ _ (by omega)]; exact h4 j (by omega)), s4, s5, ?_⟩ ?_
      · dsimp only
        rw [← h6, val_set _ _ _ (by omega), h4 m (by omega), val_take_succ _ _ (by omega), Int.pow_succ]
        generalize A.getD m 0 = x at *
        generalize (r * 1000000000 + x) / (w : Int) = sq at *
        generalize (r * 1000000000 + x) % (w : Int) = sr at *
        grind
      · simp (maxSteps := 10000000) only [isE_nil, is_cons, bo_p, bo_orow, any_cons', all_cons', all_nil', Bool.true_or, ↓sx, sx, ↓reduceIte, Nat.reduceEqDiff]
        rw [set_wv _ _ _ (by omega), i64_id (by omega) (by omega)]
        simp
    · obtain rfl : n = 0 := by omega
      rw [List.take_zero, val_nil, Int.pow_zero] at h6
      have hvo := val_nonneg h2
      have hq : val out = ((a / w : Nat) : Int) := by
        rw [Int.natCast_ediv, ← hva, ← h6, show r * 1 + 0 + (w : Int) * val out = r + w * val out by omega, Int.add_mul_ediv_left _ _ (by omega), Int.ediv_eq_zero_of_lt h5 h5b]; omega
      have hr : r = ((a % w : Nat) : Int) := by
        rw [Int.natCast_emod, ← hva, ← h6, show r * 1 + 0 + (w : Int) * val out = r + w * val out by omega, Int.add_mul_emod_self_left, Int.emod_eq_of_lt h5 h5b]
      have hrl : a % w < w := Nat.mod_lt _ hw0
      refine CallT.mk (ntrim_n hG out (by omega) h2 (a / w) hq) ?_
      simp (maxSteps := 10000000) only [↓sx, sx, ↓reduceIte, Nat.reduceEqDiff, nP_c]
      refine CallT.to (nof_n hG (a % w) (by omega)) (by rw [hr]) ?_
      simp (maxSteps := 10000000) only [↓sx, sx, ↓reduceIte, Nat.reduceEqDiff, nP_c]
set_option maxRecDepth 100000 in
set_option maxHeartbeats 8000000 in
theorem ntimes_n (a b : Nat) (ha : Lw a < 1000000) (hb : Lw b < 1000000) : Meets Tryz.prog G 187 [nP a, nP b] (nP (a * b)) := by
  refine meets_of_vc (Y := {}) (N := 68) (rs := [.tmp 4]) mix tk hG Tryz.func187 rfl (by kernel_rfl) rfl rfl (by simp) (by kernel_rfl) ?_
  unfold Lw at ha hb
  rw [show nP a = .sl (wl a).length ((wl a).map wv) from rfl, show nP b = .sl (wl b).length ((wl b).map wv) from rfl]
  have hA := wl_norm a
  have hB := wl_norm b
  have hva := wl_val a
  have hvb := wl_val b
  generalize wl a = A at *
  generalize wl b = B at *
  simp (maxSteps := 10000000) only [↓sx, sx, ↓ty, ↓reduceIte, Nat.reduceEqDiff]
  have hw : IntKind.i64.wrap ((A.length : Int) + (B.length : Int)) = ((A.length + B.length : Nat) : Int) := by rw [i64_id] <;> omega
  rw [hw]
  refine ⟨by omega, ?_⟩
  refine loopK_of (fun s : List Int × Nat => [(1, .p (.sl B.length (B.map wv))), (5, .orow 16), (17, .p (.sl A.length (A.map wv))), (18, .p (.val (.int .i64 (A.length : Nat)))), (19, .p (.val (.int .i64 (s.2 : Nat))))]) (fun _ => []) (fun s => [(16, ⟨95, 1, s.1.length, s.1.map wv, false⟩)]) (timesInv A B) (fun s => A.length - s.2) (List.replicate (A.length + B.length) 0, 0) ?_ ?_ ?_
  · refine ⟨Dig.replicate _, by simp, Zf.replicate _ _, Nat.zero_le _, ?_⟩
    simp [val_replicate]
  · simp (maxSteps := 10000000) only [isE_nil, is_cons, bo_p, bo_orow, any_cons', all_cons', all_nil', Bool.true_or, ↓sx, sx, ↓reduceIte, Nat.reduceEqDiff]
    simp [rep_wv, hw]
  · rintro ⟨out, i⟩ ⟨h2, h3, h4, h5, h6⟩
    dsimp only at h2 h3 h4 h5 h6 ⊢
    simp (maxSteps := 10000000) only [↓sx, sx, ↓ty, ↓reduceIte, Nat.reduceEqDiff, wv_c]
    refine vcIf_dec (fun hi => ?_) (fun hi => ?_)
    · refine ⟨by omega, by omega, ?_⟩
      refine loopK_of (fun s : List Int × Int × Nat => [(1, .p (.sl B.length (B.map wv))), (5, .orow 16), (6, .p (.val (.int .i64 (i : Nat)))), (7, .p (.val (.int .u32 (A.getD i 0)))), (8, .p (.val (.int .u64 s.2.1))), (17, .p (.sl A.length (A.map wv))), (18, .p (.val (.int .i64 (A.length : Nat)))), (19, .p (.val (.int .i64 (i : Nat)))), (24, .p (.sl B.length (B.map wv))), (25, .p (.val (.int .i64 (B.length : Nat)))), (26, .p (.val (.int .i64 (s.2.2 : Nat))))]) (fun _ => []) (fun s => [(16, ⟨95, 1, s.1.length, s.1.map wv, false⟩)]) (timesInv2 A B i) (fun s => B.length - s.2.2) (out, 0, 0) ?_ ?_ ?_
      · refine ⟨h2, h3, h4, Int.le_refl _, by dsimp only; omega, Nat.zero_le _, ?_⟩
        dsimp only
        rw [← h6, val_drop' A i, List.drop_zero, Int.pow_succ]
        simp only [Nat.add_zero]
        generalize val (A.drop (i + 1)) = p
        grind
      · simp (maxSteps := 10000000) only [isE_nil, is_cons, bo_p, bo_orow, any_cons', all_cons', all_nil', Bool.true_or, ↓sx, sx, ↓reduceIte, Nat.reduceEqDiff]
        rfl
      · rintro ⟨o, c, j⟩ ⟨g1, g2, g3, g4, g4b, g5, g6⟩
        dsimp only at g1 g2 g3 g4 g4b g5 g6 ⊢
        simp (maxSteps := 10000000) only [↓sx, sx, ↓ty, ↓reduceIte, Nat.reduceEqDiff, Nat.reduceAdd, Int.reduceEq, wv_c]
        refine vcIf_dec (fun hj => ?_) (fun hj => ?_)
        · have hx := hA.1.getD i
          have hy := hB.1.getD j
          have ho := g1.getD (i + j)
          have hs := mul_step ho hx hy ⟨g4, g4b⟩
          have e1 : IntKind.i64.wrap ((i : Int) + (j : Int)) = ((i + j : Nat) : Int) := by rw [i64_id] <;> omega
          rw [e1]
          simp only [Int.toNat_natCast]
          rw [u64_id (x := A.getD i 0) (by omega) (by omega), u64_id (x := B.getD j 0) (by omega) (by omega), u64_id (x := A.getD i 0 * B.getD j 0) (by omega) (by omega), u64_id (x := o.getD (i + j) 0) (by omega) (by omega), u64_id (x := A.getD i 0 * B.getD j 0 + o.getD (i + j) 0) (by omega) (by omega), u64_id (x := c + (A.getD i 0 * B.getD j 0 + o.getD (i + j) 0)) (by omega) (by omega)]
          generalize hs' : c + (A.getD i 0 * B.getD j 0 + o.getD (i + j) 0) = s at *
          have hs0 : 0 ≤ s ∧ s < 1000000000000000000 := by omega
          rw [tmod_pos hs0.1, tdiv_pos hs0.1, u32_id (x := s % 1000000000) (by omega) (by omega), u64_id (x := s / 1000000000) (by omega) (by omega)]
          refine ⟨by omega, by omega, by omega, by omega, by omega, by omega, ?_⟩
          refine NextK.mk (o.set (i + j) (s % 1000000000), s / 1000000000, j + 1) (by dsimp only; omega) ⟨g1.set _ (by omega) (by omega), by simp [g2], g3.set _ _ (by omega), by dsimp only; omega, by dsimp only; omega, by dsimp only; omega, ?_⟩ ?_
          · dsimp only
            rw [val_set _ _ _ (by omega), ← g6, val_drop B j (by omega), ← Nat.add_assoc, Int.pow_succ]
            have : s = 1000000000 * (s / 1000000000) + s % 1000000000 := by omega
            generalize s / 1000000000 = q at *
            generalize s % 1000000000 = t at *
            subst this
            generalize val (A.drop (i + 1)) = p1 at *
            generalize val (B.drop (j + 1)) = p2 at *
            grind
          · simp (maxSteps := 10000000) only [isE_nil, is_cons, bo_p, bo_orow, any_cons', all_cons', all_nil', Bool.true_or, ↓sx, sx, ↓reduceIte, Nat.reduceEqDiff]
            rw [set_wv _ _ _ (by omega), i64_id (by omega) (by omega)]
            simp
        · obtain rfl : j = B.length := by omega
          have e1 : IntKind.i64.wrap ((i : Int) + (B.length : Int)) = ((i + B.length : Nat) : Int) := by rw [i64_id] <;> omega
          rw [e1]
          simp only [Int.toNat_natCast]
          rw [u32_id (x := c) (by omega) (by omega)]
          refine ⟨by omega, by omega, ?_⟩
          have hz := g3 (i + B.length) (Nat.le_refl _)
          refine NextK.mk (o.set (i + B.length) c, i + 1) (by dsimp only; omega) ⟨g1.set _ g4 g4b, by simp [g2], (Zf.mono g3 (by omega)).set _ _ (by dsimp only; omega), by dsimp only; omega, ?_⟩ ?_
          · dsimp only
            rw [val_set _ _ _ (by omega), ← g6, hz, List.drop_length, val_nil]
            grind
          · simp (maxSteps := 10000000) only [isE_nil, is_cons, bo_p, bo_orow, any_cons', all_cons', all_nil', Bool.true_or, ↓sx, sx, ↓reduceIte, Nat.reduceEqDiff]
            rw [set_wv _ _ _ (by omega), i64_id (by omega) (by omega)]
            simp
    · obtain rfl : i = A.length := by omega
      rw [List.drop_length, val_nil] at h6
      refine CallT.mk (ntrim_n hG out (by omega) h2 (a * b) (by rw [Int.natCast_mul]; grind)) ?_
      simp (maxSteps := 10000000) only [↓sx, sx, ↓reduceIte]
end Go.Proofs.YtnlabeglboomlaaGreatDoor.S
namespace Gb
theorem tdm {t : Int} (h0 : -1000000000 ≤ t) (h1 : t < 2000000000) : (0 ≤ t ∧ t.tmod 1000000000 = t % 1000000000 ∧ t.tdiv 1000000000 = t / 1000000000) ∨ (t = -1000000000 ∧ t.tmod 1000000000 = 0 ∧ t.tdiv 1000000000 = -1) ∨ (-1000000000 < t ∧ t < 0 ∧ t.tmod 1000000000 = t ∧ t.tdiv 1000000000 = 0) := by
  by_cases h : 0 ≤ t
  · exact .inl ⟨h, tmod_pos h, tdiv_pos h⟩
  · right
    obtain ⟨s, rfl⟩ : ∃ s : Int, t = -s := ⟨-t, by omega⟩
    rw [Int.neg_tmod, Int.neg_tdiv, tmod_pos (by omega), tdiv_pos (by omega)]
    by_cases h2 : s = 1000000000
    · left; subst h2; omega
    · right; omega
theorem eq_dg {l : List Int} {k n : Nat} (hd : Dig l) (hl : l.length = k) (hn : n < 1000000000 ^ k) (hv : val l = n) : l = dg k n := by
  obtain ⟨h1, h2, h3⟩ := dg_spec k n
  exact Dig.inj hd h1 (by rw [hl, h2]) (by rw [hv, h3 hn])
def mres (m v : Nat) : List Int := if v < 1000000000 ^ m then dg m v else dg (m + 1) v
theorem mres_wl {a b : Nat} : mres (max (Lw a) (Lw b)) (a + b) = wl (a + b) := by
  unfold mres
  have hLa := lt_Lw a
  have hLb := lt_Lw b
  have e1 : 1000000000 ^ Lw a ≤ 1000000000 ^ max (Lw a) (Lw b) := Nat.pow_le_pow_right (by omega) (by omega)
  have e2 : 1000000000 ^ Lw b ≤ 1000000000 ^ max (Lw a) (Lw b) := Nat.pow_le_pow_right (by omega) (by omega)
  have e3 := Nat.pow_succ 1000000000 (max (Lw a) (Lw b))
  have hm : max (Lw a) (Lw b) ≤ Lw (a + b) := by
    have := Lw_mono (Nat.le_add_right a b)
    have := Lw_mono (Nat.le_add_left b a)
    omega
  split
  · rename_i h
    have := Lw_le h
    exact (eq_dg (wl_dig _) (by show Lw (a + b) = _; omega) h (wl_val _)).symm
  · rename_i h
    have hlt : a + b < 1000000000 ^ (max (Lw a) (Lw b) + 1) := by omega
    have h3 := Lw_le hlt
    have h4 := lt_Lw (a + b)
    have : Lw (a + b) ≠ max (Lw a) (Lw b) := by intro he; rw [he] at h4; exact h h4
    exact (eq_dg (wl_dig _) (by show Lw (a + b) = _; omega) hlt (wl_val _)).symm
theorem mres_dig (m v : Nat) : Dig (mres m v) := by unfold mres; split <;> exact (dg_spec _ _).1
theorem mres_len (m v : Nat) : (mres m v).length ≤ m + 1 := by unfold mres; split <;> rw [(dg_spec _ _).2.1] <;> omega
theorem mres_val {m v : Nat} (h : v < 1000000000 ^ m) : val (mres m v) = v := by unfold mres; rw [if_pos h, (dg_spec _ _).2.2 h]
end Gb
namespace Go.Proofs.YtnlabeglboomlaaGreatDoor.S
open Go Go.Sx Go.RowKit Gb
variable {G : World → Prop} (hG : ∀ w w', G w → Below w.heap.size w w' → G w')
include hG
def mergeInv (A B : List Int) (s v : Int) (x : List Int × Int × Nat) : Prop :=
  x.1.length = x.2.2 ∧ Dig x.1 ∧ (s = 1 → 0 ≤ x.2.1 ∧ x.2.1 ≤ 1) ∧ (s = -1 → -1 ≤ x.2.1 ∧ x.2.1 ≤ 0) ∧ x.2.2 ≤ max A.length B.length ∧ val x.1 + 1000000000 ^ x.2.2 * (val (A.drop x.2.2) + s * val (B.drop x.2.2) + x.2.1) = v
set_option maxRecDepth 100000 in
set_option maxHeartbeats 8000000 in
theorem nmerge_n (a b v : Nat) (s : Int) (ha : Lw a < 1000000) (hb : Lw b < 1000000) (hs : s = 1 ∨ s = -1) (hv : (v : Int) = a + s * b) : Meets Tryz.prog G 227 [nP a, nP b, .val (.int .i64 s)] (wsP (mres (max (Lw a) (Lw b)) v)) := by
  refine meets_of_vc (Y := {}) (N := 71) (rs := [.tmp 6]) mix tk hG Tryz.func227 rfl (by kernel_rfl) rfl rfl (by simp) (by kernel_rfl) ?_
  unfold Lw at *
  rw [show nP a = .sl (wl a).length ((wl a).map wv) from rfl, show nP b = .sl (wl b).length ((wl b).map wv) from rfl]
  have hA := wl_norm a
  have hB := wl_norm b
  have hva := wl_val a
  have hvb := wl_val b
  generalize wl a = A at *
  generalize wl b = B at *
  simp (maxSteps := 10000000) only [↓sx, sx, ↓ty, ↓reduceIte, Nat.reduceEqDiff, wsP_c]
  obtain ⟨M, hM⟩ : ∃ M : Nat, M = max A.length B.length := ⟨_, rfl⟩
  have hmx : (if (B.length : Int) > (A.length : Int) then (B.length : Int) else (A.length : Int)) = (M : Int) := by split <;> omega
  rw [hmx, i64_id (x := (A.length : Int) + 1) (by omega) (by omega), ← hM]
  refine ⟨by omega, ?_⟩
  refine loopK_of (fun x : List Int × Int × Nat => [(0, .p (.sl A.length (A.map wv))), (1, .p (.sl B.length (B.map wv))), (2, .p (.val (.int .i64 s))), (7, .orow 14), (8, .p (.val (.int .i64 x.2.1))), (19, .p (.val (.int .i64 (M : Nat)))), (20, .p (.val (.int .i64 (x.2.2 : Nat))))]) (fun _ => []) (fun x => [(14, ⟨95, 1, x.1.length, x.1.map wv, false⟩)]) (mergeInv A B s v) (fun x => M - x.2.2) ([], 0, 0) ?_ ?_ ?_
  · refine ⟨rfl, Dig.nil, fun _ => by dsimp only; omega, fun _ => by dsimp only; omega, Nat.zero_le _, ?_⟩
    simp [val_nil, hva, hvb, hv]
  · simp (maxSteps := 10000000) only [isE_nil, is_cons, bo_p, bo_orow, any_cons', all_cons', all_nil', Bool.true_or, ↓sx, sx, ↓reduceIte, Nat.reduceEqDiff]
    simp [rep]
  · rintro ⟨out, c, i⟩ ⟨h1, h2, h3, h4, h5, h6⟩
    dsimp only at h1 h2 h3 h4 h5 h6 ⊢
    simp (maxSteps := 10000000) only [↓sx, sx, ↓ty, ↓reduceIte, Nat.reduceEqDiff, Nat.reduceAdd, Nat.reduceLeDiff, Nat.reduceLT, Int.reduceEq, ne_eq, not_false_eq_true, wv_c]
    have hx : 0 ≤ A.getD i 0 ∧ A.getD i 0 < 1000000000 := hA.1.getD i
    have hy : 0 ≤ B.getD i 0 ∧ B.getD i 0 < 1000000000 := hB.1.getD i
    refine vcIf_dec (fun hi => ?_) (fun hi => ?_)
    · have fin : ∀ {e : Env} {h : Hp} {ρ : Rws} {t : Tag (mergeInv A B s v, (fun x : List Int × Int × Nat => M - x.2.2), e, h, ρ)} (w' c' : Int), c + A.getD i 0 + s * B.getD i 0 = w' + 1000000000 * c' → 0 ≤ w' → w' < 1000000000 →
        e 0 = .p (.sl A.length (A.map wv)) → e 1 = .p (.sl B.length (B.map wv)) → e 2 = .p (.val (.int .i64 s)) → e 7 = .orow 14 → e 8 = .p (.val (.int .i64 c')) → e 19 = .p (.val (.int .i64 (M : Nat))) → e 20 = .p (.val (.int .i64 (IntKind.i64.wrap ((i : Int) + 1)))) → ρ 14 = some ⟨95, 1, out.length + 1, out.map wv ++ [.val (.int .u32 (IntKind.u32.wrap w'))], false⟩ →
        (out.length + 1 ≤ maxLen ∧ (out.length + 1) * 4 ≤ 140737488355328) ∧ NextK (fun x : List Int × Int × Nat => [(0, .p (.sl A.length (A.map wv))), (1, .p (.sl B.length (B.map wv))), (2, .p (.val (.int .i64 s))), (7, .orow 14), (8, .p (.val (.int .i64 x.2.1))), (19, .p (.val (.int .i64 (M : Nat)))), (20, .p (.val (.int .i64 (x.2.2 : Nat))))]) (fun _ => []) (fun x => [(14, ⟨95, 1, x.1.length, x.1.map wv, false⟩)]) (mergeInv A B s v) (fun x => M - x.2.2) (out, c, i) e h ρ t := by
        intro e h ρ t w' c' hw h0 h1' e0 e1 e2 e7 e8 e19 e20 r14
        rw [u32_id h0 (by omega)] at r14
        rw [i64_id (by omega) (by omega)] at e20
        refine ⟨⟨by simp only [maxLen]; omega, by omega⟩, NextK.mk (out ++ [w'], c', i + 1) (by dsimp only; omega) ?_ ?_⟩
        · refine ⟨by simp [h1], h2.snoc h0 h1', fun hs1 => ?_, fun hs1 => ?_, by dsimp only; omega, ?_⟩
          · have := h3 hs1; subst hs1; dsimp only; omega
          · have := h4 hs1; subst hs1; dsimp only; omega
          · dsimp only
            rw [val_snoc, h1, ← h6, val_drop' A i, val_drop' B i, Int.pow_succ]
            generalize val (A.drop (i + 1)) = p1 at *
            generalize val (B.drop (i + 1)) = p2 at *
            generalize A.getD i 0 = x at *
            generalize B.getD i 0 = y at *
            have : w' = c + x + s * y - 1000000000 * c' := by omega
            subst this
            grind
        · simp (maxSteps := 10000000) only [isE_nil, is_cons, bo_p, bo_orow, any_cons', all_cons', all_nil', Bool.true_or, ↓sx, sx, e0, e1, e2, e7, e8, e19, e20, r14]
          simp [wv_c]
      have hys : -1000000000 < s * B.getD i 0 ∧ s * B.getD i 0 < 1000000000 := by rcases hs with rfl | rfl <;> omega
      have hc : -1 ≤ c ∧ c ≤ 1 := by
        rcases hs with rfl | rfl
        · have := h3 rfl; omega
        · have := h4 rfl; omega
      have ht : -1000000000 ≤ c + A.getD i 0 + s * B.getD i 0 ∧ c + A.getD i 0 + s * B.getD i 0 < 2000000000 := by
        rcases hs with rfl | rfl
        · have := h3 rfl; omega
        · have := h4 rfl; omega
      have rest : ∀ t : Int, t = c + A.getD i 0 + s * B.getD i 0 → (0 ≤ t ∧ t.tmod 1000000000 = t % 1000000000 ∧ t.tdiv 1000000000 = t / 1000000000) ∨ (t = -1000000000 ∧ t.tmod 1000000000 = 0 ∧ t.tdiv 1000000000 = -1) ∨ (-1000000000 < t ∧ t < 0 ∧ t.tmod 1000000000 = t ∧ t.tdiv 1000000000 = 0) := fun t h => tdm (by omega) (by omega)
      refine vcIf_dec (fun ha2 => ?_) (fun ha2 => ?_)
      · refine ⟨by omega, by omega, ?_⟩
        rw [i64_id (x := A.getD i 0) (by omega) (by omega), i64_id (x := c + A.getD i 0) (by omega) (by omega)]
        refine vcIf_dec (fun hb2 => ?_) (fun hb2 => ?_)
        · refine ⟨by omega, by omega, ?_⟩
          rw [i64_id (x := B.getD i 0) (by omega) (by omega), i64_id (x := s * B.getD i 0) (by omega) (by omega), i64_id (x := c + A.getD i 0 + s * B.getD i 0) (by omega) (by omega)]
          generalize htt : c + A.getD i 0 + s * B.getD i 0 = t at *
          refine vcIf_dec (fun hn => ?_) (fun hn => ?_)
          · rcases rest t rfl with ⟨q1, q2, q3⟩ | ⟨q1, q2, q3⟩ | ⟨q1, q1b, q2, q3⟩
            · omega
            · omega
            · rw [q2, q3, i64_id (x := t + 1000000000) (by omega) (by omega), i64_id (x := 0) (by omega) (by omega), i64_id (x := (0 : Int) - 1) (by omega) (by omega)]
              refine fin (t + 1000000000) (0 - 1) (by omega) (by omega) (by omega) ?_ ?_ ?_ ?_ ?_ ?_ ?_ ?_
              all_goals (simp (maxSteps := 10000000) only [↓sx, sx, ↓reduceIte, Nat.reduceEqDiff]; done)
          · rcases rest t rfl with ⟨q1, q2, q3⟩ | ⟨q1, q2, q3⟩ | ⟨q1, q1b, q2, q3⟩
            · rw [q2, q3, i64_id (x := t / 1000000000) (by omega) (by omega)]
              refine fin (t % 1000000000) (t / 1000000000) (by omega) (by omega) (by omega) ?_ ?_ ?_ ?_ ?_ ?_ ?_ ?_
              all_goals (simp (maxSteps := 10000000) only [↓sx, sx, ↓reduceIte, Nat.reduceEqDiff]; done)
            · rw [q2, q3, i64_id (x := -1) (by omega) (by omega)]
              refine fin 0 (-1) (by omega) (by omega) (by omega) ?_ ?_ ?_ ?_ ?_ ?_ ?_ ?_
              all_goals (simp (maxSteps := 10000000) only [↓sx, sx, ↓reduceIte, Nat.reduceEqDiff]; done)
            · omega
        · have h8 : B.getD i 0 = 0 := getD_out (by omega)
          rw [h8, Int.mul_zero, Int.add_zero] at rest fin
          generalize htt : c + A.getD i 0 = t at *
          refine vcIf_dec (fun hn => ?_) (fun hn => ?_)
          · rcases rest t rfl with ⟨q1, q2, q3⟩ | ⟨q1, q2, q3⟩ | ⟨q1, q1b, q2, q3⟩
            · omega
            · omega
            · rw [q2, q3, i64_id (x := t + 1000000000) (by omega) (by omega), i64_id (x := 0) (by omega) (by omega), i64_id (x := (0 : Int) - 1) (by omega) (by omega)]
              refine fin (t + 1000000000) (0 - 1) (by omega) (by omega) (by omega) ?_ ?_ ?_ ?_ ?_ ?_ ?_ ?_
              all_goals (simp (maxSteps := 10000000) only [↓sx, sx, ↓reduceIte, Nat.reduceEqDiff]; done)
          · rcases rest t rfl with ⟨q1, q2, q3⟩ | ⟨q1, q2, q3⟩ | ⟨q1, q1b, q2, q3⟩
            · rw [q2, q3, i64_id (x := t / 1000000000) (by omega) (by omega)]
              refine fin (t % 1000000000) (t / 1000000000) (by omega) (by omega) (by omega) ?_ ?_ ?_ ?_ ?_ ?_ ?_ ?_
              all_goals (simp (maxSteps := 10000000) only [↓sx, sx, ↓reduceIte, Nat.reduceEqDiff]; done)
            · rw [q2, q3, i64_id (x := -1) (by omega) (by omega)]
              refine fin 0 (-1) (by omega) (by omega) (by omega) ?_ ?_ ?_ ?_ ?_ ?_ ?_ ?_
              all_goals (simp (maxSteps := 10000000) only [↓sx, sx, ↓reduceIte, Nat.reduceEqDiff]; done)
            · omega
      · have h7 : A.getD i 0 = 0 := getD_out (by omega)
        rw [h7, Int.add_zero] at rest fin ht
        refine vcIf_dec (fun hb2 => ?_) (fun hb2 => ?_)
        · refine ⟨by omega, by omega, ?_⟩
          rw [i64_id (x := B.getD i 0) (by omega) (by omega), i64_id (x := s * B.getD i 0) (by omega) (by omega), i64_id (x := c + s * B.getD i 0) (by omega) (by omega)]
          generalize htt : c + s * B.getD i 0 = t at *
          refine vcIf_dec (fun hn => ?_) (fun hn => ?_)
          · rcases rest t rfl with ⟨q1, q2, q3⟩ | ⟨q1, q2, q3⟩ | ⟨q1, q1b, q2, q3⟩
            · omega
            · omega
            · rw [q2, q3, i64_id (x := t + 1000000000) (by omega) (by omega), i64_id (x := 0) (by omega) (by omega), i64_id (x := (0 : Int) - 1) (by omega) (by omega)]
              refine fin (t + 1000000000) (0 - 1) (by omega) (by omega) (by omega) ?_ ?_ ?_ ?_ ?_ ?_ ?_ ?_
              all_goals (simp (maxSteps := 10000000) only [↓sx, sx, ↓reduceIte, Nat.reduceEqDiff]; done)
          · rcases rest t rfl with ⟨q1, q2, q3⟩ | ⟨q1, q2, q3⟩ | ⟨q1, q1b, q2, q3⟩
            · rw [q2, q3, i64_id (x := t / 1000000000) (by omega) (by omega)]
              refine fin (t % 1000000000) (t / 1000000000) (by omega) (by omega) (by omega) ?_ ?_ ?_ ?_ ?_ ?_ ?_ ?_
              all_goals (simp (maxSteps := 10000000) only [↓sx, sx, ↓reduceIte, Nat.reduceEqDiff]; done)
            · rw [q2, q3, i64_id (x := -1) (by omega) (by omega)]
              refine fin 0 (-1) (by omega) (by omega) (by omega) ?_ ?_ ?_ ?_ ?_ ?_ ?_ ?_
              all_goals (simp (maxSteps := 10000000) only [↓sx, sx, ↓reduceIte, Nat.reduceEqDiff]; done)
            · omega
        · omega
    · obtain rfl : i = M := by omega
      rw [List.drop_eq_nil_of_le (show A.length ≤ i by omega), List.drop_eq_nil_of_le (show B.length ≤ i by omega)] at h6
      simp only [val_nil, Int.mul_zero, Int.add_zero, Int.zero_add] at h6
      have hvl := val_bounds h2
      rw [h1, ← cast_pow] at hvl
      rw [← cast_pow] at h6
      have hc : -1 ≤ c ∧ c ≤ 1 := by
        rcases hs with rfl | rfl
        · have := h3 rfl; omega
        · have := h4 rfl; omega
      have hP : 0 < 1000000000 ^ i := Nat.pow_pos (by omega)
      generalize hPg : (1000000000 ^ i : Nat) = P at *
      have hc0 : 0 ≤ c := by
        apply Classical.byContradiction
        intro hn
        obtain rfl : c = -1 := by omega
        omega
      refine vcIf_dec (fun h => ?_) (fun h => ?_)
      · obtain rfl : c = 1 := by omega
        rw [u32_id (by omega) (by omega)]
        refine ⟨⟨by simp only [maxLen]; omega, by omega⟩, ?_⟩
        have : out ++ [1] = mres i v := by
          unfold mres
          rw [hPg, if_neg (by omega)]
          refine eq_dg (h2.snoc (by omega) (by omega)) (by simp [h1]) (by rw [Nat.pow_succ, hPg]; omega) ?_
          rw [val_snoc, h1, ← cast_pow, hPg]
          omega
        rw [← this]
        simp [wv_c]
      · obtain rfl : c = 0 := by omega
        have : out = mres i v := by
          unfold mres
          rw [hPg, if_pos (by omega)]
          exact eq_dg h2 h1 (by rw [hPg]; omega) (by omega)
        rw [← this]
set_option maxRecDepth 100000 in
theorem nplus_n (a b : Nat) (ha : Lw a < 1000000) (hb : Lw b < 1000000) : Meets Tryz.prog G 210 [nP a, nP b] (nP (a + b)) := by
  refine meets_of_vc (Y := {}) (N := 8) (rs := [.tmp 4]) mix tk hG Tryz.func210 rfl (by kernel_rfl) rfl rfl (by simp) (by kernel_rfl) ?_
  simp (maxSteps := 10000000) only [↓sx, sx, ↓ty, ↓reduceIte, Nat.reduceEqDiff, nP_c]
  refine CallT.mk (nmerge_n hG a b (a + b) 1 ha hb (.inl rfl) (by omega)) ?_
  rw [mres_wl]
  simp (maxSteps := 10000000) only [↓sx, sx, wsP_c]
set_option maxRecDepth 100000 in
theorem nminus_n (a b : Nat) (ha : Lw a < 1000000) (hb : Lw b < 1000000) (hle : b ≤ a) : Meets Tryz.prog G 211 [nP a, nP b] (nP (a - b)) := by
  refine meets_of_vc (Y := {}) (N := 9) (rs := [.tmp 4]) mix tk hG Tryz.func211 rfl (by kernel_rfl) rfl rfl (by simp) (by kernel_rfl) ?_
  simp (maxSteps := 10000000) only [↓sx, sx, ↓ty, ↓reduceIte, Nat.reduceEqDiff, nP_c]
  refine CallT.mk (nmerge_n hG a b (a - b) (-1) ha hb (.inr rfl) (by omega)) ?_
  simp (maxSteps := 10000000) only [↓sx, sx, ↓reduceIte, wsP_c]
  have hlt : a - b < 1000000000 ^ max (Lw a) (Lw b) := Nat.lt_of_le_of_lt (Nat.sub_le a b) (Nat.lt_of_lt_of_le (lt_Lw a) (Nat.pow_le_pow_right (by omega) (by omega)))
  refine CallT.mk (ntrim_n hG _ (by have := mres_len (max (Lw a) (Lw b)) (a - b); omega) (mres_dig _ _) (a - b) (mres_val hlt)) ?_
  simp (maxSteps := 10000000) only [↓sx, sx, nP_c]
end Go.Proofs.YtnlabeglboomlaaGreatDoor.S
namespace Go.Proofs.YtnlabeglboomlaaGreatDoor.S
open Go Go.RowKit
def slLen : Value → Nat | .slice _ n _ => n | _ => 0
set_option maxRecDepth 100000 in
set_option maxHeartbeats 4000000 in
theorem trim_calls (a : Option Addr) (n c : Nat) (z : Nat → Int) (hn : n < 1000000000000) (hnc : n ≤ c) (w : World) (hc : ∀ j, j < n → ∃ ad, a = some ad ∧ w.cell? (ad.add j) = some (.int .u32 (z j))) :
    Calls Tryz.prog 202 #[.slice a n c] w fun e w' => w' = w ∧ ∃ m, m ≤ n ∧ e = .returned (.slice a m c) ∧ (∀ j, m ≤ j → j < n → z j = 0) ∧ (m = 0 ∨ z (m - 1) ≠ 0) := by
  go_enter Tryz.func202, Tryz.ntmps202
  go_wp2
  go_loop [0] (fun v => ∃ m : Nat, m ≤ n ∧ v = .slice a m c ∧ ∀ j, m ≤ j → j < n → z j = 0) (fun v => slLen v)
  case atStart => exact ⟨n, Nat.le_refl _, rfl, fun j h1 h2 => by omega⟩
  case round =>
    obtain ⟨m, hm, rfl, hz⟩ := hrel
    cases m with
    | zero =>
      go_wp2
      go_ret
      exact ⟨rfl, 0, Nat.zero_le _, rfl, fun j _ h => hz j (Nat.zero_le _) h, .inl rfl⟩
    | succ m =>
      obtain ⟨ad, rfl, hcm⟩ := hc m (by omega)
      go_wp2
      · refine ⟨⟨m, by omega, rfl, fun j h1 h2 => ?_⟩, by simp [slLen]⟩
        by_cases hj : j = m
        · subst hj
          rename_i hb
          simpa using hb
        · exact hz j (by omega) h2
      · go_ret
        rename_i hb _
        exact ⟨rfl, m + 1, hm, rfl, hz, .inr (by simpa using hb)⟩
end Go.Proofs.YtnlabeglboomlaaGreatDoor.S
namespace Gb
theorem trim_take {l : List Int} (hd : Dig l) {n m : Nat} (hv : val l = n) (hm : m ≤ l.length) (hz : ∀ j, m ≤ j → j < l.length → l.getD j 0 = 0) (hne : m = 0 ∨ l.getD (m - 1) 0 ≠ 0) : l.take m = wl n := by
  have hdrop : val (l.drop m) = 0 := by
    have : l.drop m = List.replicate (l.length - m) 0 := by
      apply List.ext_getElem
      · simp
      · intro i h1 h2
        rw [List.length_drop] at h1
        have := hz (m + i) (by omega) (by omega)
        rw [List.getD_eq_getElem?_getD, List.getElem?_eq_getElem (by omega)] at this
        simpa using this
    rw [this, val_replicate]
  refine eq_wl ⟨hd.take m, fun hne2 => ?_⟩ ?_
  · have hl : (l.take m).length = m := by rw [List.length_take]; omega
    rw [hl]
    have hm0 : m ≠ 0 := by intro h; subst h; simp at hne2
    rcases hne with h | h
    · exact absurd h hm0
    · rw [List.getD_eq_getElem?_getD, List.getElem?_take_of_lt (by omega), ← List.getD_eq_getElem?_getD]; exact h
  · have := val_take_drop l m hm
    rw [hdrop, hv] at this
    omega
end Gb
namespace Go.Proofs.YtnlabeglboomlaaGreatDoor.S
open Go Go.Sx Go.RowKit Gb
variable {G : World → Prop} (hG : ∀ w w', G w → Below w.heap.size w w' → G w')
include hG
set_option maxRecDepth 100000 in
theorem ntrim_t (l : List Int) (hl : l.length < 1000000000000) (hd : Dig l) (n : Nat) (hv : val l = n) : MeetsT Tryz.prog G 202 ⟨95, 1, l.length, l.map wv, false⟩ ⟨95, 1, (wl n).length, (wl n).map wv, false⟩ := by
  refine ⟨(ntrim_c hG l hl).ent, ?_⟩
  intro B v vs us w hB hown hrep hvs hgr
  obtain rfl : vs = [] := by simpa [RepL] using hvs
  have hlen : us.length = l.length := by have := hrep.length; simpa using this
  have hus : ∀ j, j < l.length → us[j]? = some (.int .u32 (l.getD j 0)) := by
    intro j hj
    obtain ⟨x, h1, h2⟩ := hrep.get j (wv (l.getD j 0)) (by rw [List.getElem?_map, List.getElem?_eq_getElem hj, List.getD_eq_getElem?_getD, List.getElem?_eq_getElem hj]; rfl)
    rw [wv_c] at h2
    simp only [RepP] at h2
    rw [h1, h2]
  rcases hown.2 with ⟨hv0, hn0⟩ | ⟨g, cap, cur, hv0, hb, hg, h3, h4, h5, h6⟩
  · have hl0 : l = [] := List.eq_nil_of_length_eq_zero hn0
    subst hl0
    have hn : n = 0 := by rw [val_nil] at hv; omega
    subst hn
    have := trim_calls none 0 0 (fun _ => 0) (by omega) (Nat.le_refl _) w (fun j hj => by omega)
    rw [hv0]
    refine this.mono ?_
    rintro en w' ⟨rfl, m, hm, rfl, _, _⟩
    obtain rfl : m = 0 := by omega
    refine ⟨_, [], rfl, grownBy_refl _ _, ?_, ?_, rfl⟩
    · rw [wl_zero]; exact World.ownsRow_nil _ 0 _ _
    · rw [wl_zero]; simp [RepL]
  · have := trim_calls (some ⟨g, 0, none⟩) l.length cap (fun j => l.getD j 0) hl h3 w (fun j hj => ⟨_, rfl, ?_⟩)
    · rw [hv0]
      refine this.mono ?_
      rintro en w' ⟨rfl, m, hm, rfl, hz, hne⟩
      have ht := trim_take hd hv hm hz hne
      have hwl : (wl n).length = m := by rw [← ht, List.length_take]; omega
      refine ⟨_, us.take m, rfl, grownBy_refl _ _, ?_, ?_, rfl⟩
      · rw [hwl]
        refine ⟨by rw [List.length_take]; show min m us.length = m * 1; omega, .inr ⟨g, cap, cur, rfl, hb, hg, by show m ≤ cap; have : l.length ≤ cap := h3; omega, h4, h5, ?_⟩⟩
        show cur.toList.take (m * 1) = us.take m
        rw [← h6, List.take_take]
        show _ = cur.toList.take (min m (l.length * 1))
        congr 1
        omega
      · rw [← ht, List.map_take]
        refine RepL.take m (RepL.mono (fun b hb => ⟨⟨.inl hb, (hB b hb).1, ?_⟩, rfl⟩) _ _ hrep)
        have := (hB b hb).2
        rw [hv0] at this
        exact this
    · have := hown.cells (by rw [hv0]; rfl : v.ownBlock = some g) j _ (hus j hj)
      exact this
end Go.Proofs.YtnlabeglboomlaaGreatDoor.S
namespace Go.Proofs.YtnlabeglboomlaaGreatDoor.S
open Go Go.Sx Go.RowKit Gb
variable {G : World → Prop} (hG : ∀ w w', G w → Below w.heap.size w w' → G w')
include hG
set_option maxRecDepth 100000 in
set_option maxHeartbeats 8000000 in
theorem ntimes_r (a b : Nat) (ha : Lw a < 1000000) (hb : Lw b < 1000000) : MeetsR Tryz.prog G 187 [nP a, nP b] ⟨95, 1, (wl (a * b)).length, (wl (a * b)).map wv, false⟩ := by
  refine meetsR_of_vc (Y := { tc := [202] }) (N := 68) (t := 4) mix tk hG Tryz.func187 rfl (by kernel_rfl) rfl rfl (by simp) (by kernel_rfl) rfl ?_
  unfold Lw at ha hb
  rw [show nP a = .sl (wl a).length ((wl a).map wv) from rfl, show nP b = .sl (wl b).length ((wl b).map wv) from rfl]
  have hA := wl_norm a
  have hB := wl_norm b
  have hva := wl_val a
  have hvb := wl_val b
  generalize wl a = A at *
  generalize wl b = B at *
  simp (maxSteps := 10000000) only [↓sx, sx, ↓ty, ↓reduceIte, Nat.reduceEqDiff]
  have hw : IntKind.i64.wrap ((A.length : Int) + (B.length : Int)) = ((A.length + B.length : Nat) : Int) := by rw [i64_id] <;> omega
  rw [hw]
  refine ⟨by omega, ?_⟩
  refine loopK_of (fun s : List Int × Nat => [(1, .p (.sl B.length (B.map wv))), (5, .orow 16), (17, .p (.sl A.length (A.map wv))), (18, .p (.val (.int .i64 (A.length : Nat)))), (19, .p (.val (.int .i64 (s.2 : Nat))))]) (fun _ => []) (fun s => [(16, ⟨95, 1, s.1.length, s.1.map wv, false⟩)]) (timesInv A B) (fun s => A.length - s.2) (List.replicate (A.length + B.length) 0, 0) ?_ ?_ ?_
  · refine ⟨Dig.replicate _, by simp, Zf.replicate _ _, Nat.zero_le _, ?_⟩
    simp [val_replicate]
  · simp (maxSteps := 10000000) only [isE_nil, is_cons, bo_p, bo_orow, any_cons', all_cons', all_nil', Bool.true_or, ↓sx, sx, ↓reduceIte, Nat.reduceEqDiff]
    simp [rep_wv, hw]
  · rintro ⟨out, i⟩ ⟨h2, h3, h4, h5, h6⟩
    dsimp only at h2 h3 h4 h5 h6 ⊢
    simp (maxSteps := 10000000) only [↓sx, sx, ↓ty, ↓reduceIte, Nat.reduceEqDiff, wv_c]
    refine vcIf_dec (fun hi => ?_) (fun hi => ?_)
    · refine ⟨by omega, by omega, ?_⟩
      refine loopK_of (fun s : List Int × Int × Nat => [(1, .p (.sl B.length (B.map wv))), (5, .orow 16), (6, .p (.val (.int .i64 (i : Nat)))), (7, .p (.val (.int .u32 (A.getD i 0)))), (8, .p (.val (.int .u64 s.2.1))), (17, .p (.sl A.length (A.map wv))), (18, .p (.val (.int .i64 (A.length : Nat)))), (19, .p (.val (.int .i64 (i : Nat)))), (24, .p (.sl B.length (B.map wv))), (25, .p (.val (.int .i64 (B.length : Nat)))), (26, .p (.val (.int .i64 (s.2.2 : Nat))))]) (fun _ => []) (fun s => [(16, ⟨95, 1, s.1.length, s.1.map wv, false⟩)]) (timesInv2 A B i) (fun s => B.length - s.2.2) (out, 0, 0) ?_ ?_ ?_
      · refine ⟨h2, h3, h4, Int.le_refl _, by dsimp only; omega, Nat.zero_le _, ?_⟩
        dsimp only
        rw [← h6, val_drop' A i, List.drop_zero, Int.pow_succ]
        simp only [Nat.add_zero]
        generalize val (A.drop (i + 1)) = p
        grind
      · simp (maxSteps := 10000000) only [isE_nil, is_cons, bo_p, bo_orow, any_cons', all_cons', all_nil', Bool.true_or, ↓sx, sx, ↓reduceIte, Nat.reduceEqDiff]
        rfl
      · rintro ⟨o, c, j⟩ ⟨g1, g2, g3, g4, g4b, g5, g6⟩
        dsimp only at g1 g2 g3 g4 g4b g5 g6 ⊢
        simp (maxSteps := 10000000) only [↓sx, sx, ↓ty, ↓reduceIte, Nat.reduceEqDiff, Nat.reduceAdd, Int.reduceEq, wv_c]
        refine vcIf_dec (fun hj => ?_) (fun hj => ?_)
        · have hx := hA.1.getD i
          have hy := hB.1.getD j
          have ho := g1.getD (i + j)
          have hs := mul_step ho hx hy ⟨g4, g4b⟩
          have e1 : IntKind.i64.wrap ((i : Int) + (j : Int)) = ((i + j : Nat) : Int) := by rw [i64_id] <;> omega
          rw [e1]
          simp only [Int.toNat_natCast]
          rw [u64_id (x := A.getD i 0) (by omega) (by omega), u64_id (x := B.getD j 0) (by omega) (by omega), u64_id (x := A.getD i 0 * B.getD j 0) (by omega) (by omega), u64_id (x := o.getD (i + j) 0) (by omega) (by omega), u64_id (x := A.getD i 0 * B.getD j 0 + o.getD (i + j) 0) (by omega) (by omega), u64_id (x := c + (A.getD i 0 * B.getD j 0 + o.getD (i + j) 0)) (by omega) (by omega)]
          generalize hs' : c + (A.getD i 0 * B.getD j 0 + o.getD (i + j) 0) = s at *
          have hs0 : 0 ≤ s ∧ s < 1000000000000000000 := by omega
          rw [tmod_pos hs0.1, tdiv_pos hs0.1, u32_id (x := s % 1000000000) (by omega) (by omega), u64_id (x := s / 1000000000) (by omega) (by omega)]
          refine ⟨by omega, by omega, by omega, by omega, by omega, by omega, ?_⟩
          refine NextK.mk (o.set (i + j) (s % 1000000000), s / 1000000000, j + 1) (by dsimp only; omega) ⟨g1.set _ (by omega) (by omega), by simp [g2], g3.set _ _ (by omega), by dsimp only; omega, by dsimp only; omega, by dsimp only; omega, ?_⟩ ?_
          · dsimp only
            rw [val_set _ _ _ (by omega), ← g6, val_drop B j (by omega), ← Nat.add_assoc, Int.pow_succ]
            have : s = 1000000000 * (s / 1000000000) + s % 1000000000 := by omega
            generalize s / 1000000000 = q at *
            generalize s % 1000000000 = t at *
            subst this
            generalize val (A.drop (i + 1)) = p1 at *
            generalize val (B.drop (j + 1)) = p2 at *
            grind
          · simp (maxSteps := 10000000) only [isE_nil, is_cons, bo_p, bo_orow, any_cons', all_cons', all_nil', Bool.true_or, ↓sx, sx, ↓reduceIte, Nat.reduceEqDiff]
            rw [set_wv _ _ _ (by omega), i64_id (by omega) (by omega)]
            simp
        · obtain rfl : j = B.length := by omega
          have e1 : IntKind.i64.wrap ((i : Int) + (B.length : Int)) = ((i + B.length : Nat) : Int) := by rw [i64_id] <;> omega
          rw [e1]
          simp only [Int.toNat_natCast]
          rw [u32_id (x := c) (by omega) (by omega)]
          refine ⟨by omega, by omega, ?_⟩
          have hz := g3 (i + B.length) (Nat.le_refl _)
          refine NextK.mk (o.set (i + B.length) c, i + 1) (by dsimp only; omega) ⟨g1.set _ g4 g4b, by simp [g2], (Zf.mono g3 (by omega)).set _ _ (by dsimp only; omega), by dsimp only; omega, ?_⟩ ?_
          · dsimp only
            rw [val_set _ _ _ (by omega), ← g6, hz, List.drop_length, val_nil]
            grind
          · simp (maxSteps := 10000000) only [isE_nil, is_cons, bo_p, bo_orow, any_cons', all_cons', all_nil', Bool.true_or, ↓sx, sx, ↓reduceIte, Nat.reduceEqDiff]
            rw [set_wv _ _ _ (by omega), i64_id (by omega) (by omega)]
            simp
    · obtain rfl : i = A.length := by omega
      rw [List.drop_length, val_nil] at h6
      refine CallTT.mk (ntrim_t hG out (by omega) h2 (a * b) (by rw [Int.natCast_mul]; grind)) ?_
      simp (maxSteps := 10000000) only [↓sx, sx, ↓reduceIte]
end Go.Proofs.YtnlabeglboomlaaGreatDoor.S
namespace Go.Proofs.YtnlabeglboomlaaGreatDoor.S
open Go Go.Sx Go.RowKit Gb
variable {G : World → Prop} (hG : ∀ w w', G w → Below w.heap.size w w' → G w')
include hG
omit hG in
theorem Lw2_lt {a : Nat} (h : Lw a ≤ 2) : a < 1000000000000000000 := by
  have h1 := lt_Lw a
  have h2 : 1000000000 ^ Lw a ≤ 1000000000 ^ 2 := Nat.pow_le_pow_right (by omega) h
  omega
set_option maxRecDepth 100000 in
set_option maxHeartbeats 20000000 in
theorem ndivide_n (a b : Nat) (ha : Lw a < 1000000) (hb : Lw b < 1000000) (hb0 : 0 < b) : Meets Tryz.prog G 186 [nP a, nP b] (.tup [nP (a / b), nP (a % b)]) := by
  refine meets_of_vc (Y := { fc := [187], ct := [3] }) (N := 299) (rs := [.tmp 4, .tmp 5]) mix tk hG Tryz.func186 rfl (by kernel_rfl) rfl rfl (by simp) (by kernel_rfl) ?_
  have hA := wl_norm a
  have hB := wl_norm b
  have hva := wl_val a
  have hvb := wl_val b
  have hla : (wl a).length < 1000000 := ha
  have hlb : (wl b).length < 1000000 := hb
  have hbne : wl b ≠ [] := by rw [wl_pos (by omega)]; simp
  have hbl := List.length_pos_iff.2 hbne
  simp (maxSteps := 10000000) only [↓sx, sx, ↓ty, ↓reduceIte, Nat.reduceEqDiff, Nat.reduceBeqDiff, Nat.reduceAdd, Nat.reduceLeDiff, ne_eq, not_false_eq_true, nP_c]
  refine CallT.mk (ncmp_n hG a b (by omega) (by omega)) ?_
  simp (maxSteps := 10000000) only [↓sx, sx, ↓reduceIte, Nat.reduceEqDiff, Nat.reduceAdd, iP_c]
  refine vcIf_dec (fun hlt => ?_) (fun hlt => ?_)
  · have : (a : Int) < b := by
      rw [cmpI] at hlt
      split at hlt
      · assumption
      · split at hlt <;> omega
    rw [Nat.div_eq_of_lt (by omega), Nat.mod_eq_of_lt (by omega), wl_zero]
    rfl
  have hba : b ≤ a := by
    rw [cmpI] at hlt
    split at hlt <;> omega
  have hLba : Lw b ≤ Lw a := Lw_mono hba
  by_cases ha2 : Lw a ≤ 2
  · have hb2 : Lw b ≤ 2 := by omega
    have bx := Lw2_lt ha2
    have by_ := Lw2_lt hb2
    refine CallT.mk (by have := nsmall_n hG a (by omega); rw [if_pos ha2, decide_eq_true ha2] at this; exact this) ?_
    simp (maxSteps := 10000000) only [↓sx, sx, ↓reduceIte, Nat.reduceEqDiff]
    refine CallT.mk (by have := nsmall_n hG b (by omega); rw [if_pos hb2, decide_eq_true hb2] at this; exact this) ?_
    simp (maxSteps := 10000000) only [↓sx, sx, ↓reduceIte, Nat.reduceEqDiff, Nat.reduceLT]
    have hq : a / b ≤ a := Nat.div_le_self a b
    have hm : a % b < b := Nat.mod_lt _ hb0
    have e1 : IntKind.u64.wrap ((a : Int).tdiv b) = ((a / b : Nat) : Int) := by
      rw [tdiv_pos (by omega), ← Int.natCast_ediv]
      generalize a / b = q at *
      rw [u64_id (by omega) (by omega)]
    have e2 : (a : Int).tmod b = ((a % b : Nat) : Int) := by rw [tmod_pos (by omega), Int.natCast_emod]
    refine ⟨by omega, CallT.to (nof_n hG (a / b) (by omega)) (by rw [e1]) ?_⟩
    simp (maxSteps := 10000000) only [↓sx, sx, ↓reduceIte, Nat.reduceEqDiff, nP_c]
    refine ⟨by omega, CallT.to (nof_n hG (a % b) (by omega)) (by rw [e2]) ?_⟩
    simp (maxSteps := 10000000) only [↓sx, sx, nP_c]
  have ha3 : 3 ≤ (wl a).length := by show 3 ≤ Lw a; omega
  refine CallT.mk (by have := nsmall_n hG a (by omega); rw [if_neg ha2, decide_eq_false ha2] at this; exact this) ?_
  simp (maxSteps := 10000000) only [↓sx, sx, ↓reduceIte, Nat.reduceEqDiff]
  refine CallT.mk (nsmall_n hG b (by omega)) ?_
  simp (maxSteps := 10000000) only [↓sx, sx, ↓ty, ↓reduceIte, Nat.reduceEqDiff, Nat.reduceLT, wv_c]
  refine vcIf_b (fun h1 => ?_) (fun h1 => ?_)
  · have h1 : (wl b).length = 1 := by simp at h1; omega
    obtain ⟨x, hx⟩ := List.length_eq_one_iff.1 h1
    have hxb : x = (b : Int) := by rw [← hvb, hx]; simp [val]
    subst hxb
    have hxd := hB.1 b (by rw [hx]; simp)
    refine ⟨by omega, by omega, ?_⟩
    refine CallT.to (nby_n hG a b ha hb0 (by omega)) (by rw [hx, List.getD_cons_zero, u64_id (by omega) (by omega)]; rfl) ?_
    simp (maxSteps := 10000000) only [↓sx, sx, nP_c]
  · have h1 : 2 ≤ (wl b).length := by simp at h1; omega
    have hw : IntKind.i64.wrap (((wl b).length : Int) - 1) = (((wl b).length - 1 : Nat) : Int) := by rw [i64_id] <;> omega
    rw [hw, Int.toNat_natCast]
    have htop := hB.2 hbne
    have hbt := hB.1.getD ((wl b).length - 1)
    generalize hx : (wl b).getD ((wl b).length - 1) 0 = x at *
    obtain ⟨s1, s2, s3⟩ := scale_ok (x := x) (by omega)
    generalize hs : 1000000000 / (x + 1) = s at *
    have e1 : IntKind.u64.wrap (Int.tdiv 1000000000 (IntKind.u64.wrap (IntKind.u64.wrap x + 1))) = s := by
      rw [u64_id (x := x) (by omega) (by omega), u64_id (x := x + 1) (by omega) (by omega), tdiv_pos (by decide), hs, u64_id (x := s) (by omega) (by omega)]
    have e2 : ¬ IntKind.u64.wrap (IntKind.u64.wrap x + 1) = 0 := by
      rw [u64_id (x := x) (by omega) (by omega), u64_id (x := x + 1) (by omega) (by omega)]; omega
    obtain ⟨σ, hσ⟩ : ∃ σ : Nat, s = (σ : Int) := ⟨s.toNat, by omega⟩
    refine ⟨by omega, by omega, e2, ?_⟩
    refine CallT.to (nof_n hG σ (by omega)) (by rw [e1, hσ]) ?_
    have hwσ : wl σ = [s] := by
      rw [wl_pos (by omega), show σ / 1000000000 = 0 by omega, wl_zero, show ((σ % 1000000000 : Nat) : Int) = s by omega]
    have hLσ : Lw σ = 1 := by unfold Lw; rw [hwσ]; rfl
    simp (maxSteps := 10000000) only [↓sx, sx, ↓reduceIte, Nat.reduceEqDiff, nP_c]
    refine CallFT.mk (ntimes_r hG a σ ha (by omega)) ?_
    simp (maxSteps := 10000000) only [↓sx, sx, ↓ty, ↓reduceIte, Nat.reduceEqDiff, Nat.reduceAdd, Nat.reduceLT]
    have hwd := wl_norm (a * σ)
    have hwv := wl_val (a * σ)
    have hLa : (wl (a * σ)).length ≤ (wl a).length + 1 := by have := Lw_mul a σ; rw [hLσ] at this; exact this
    have hLa2 : (wl a).length ≤ (wl (a * σ)).length := Lw_mono (Nat.le_mul_of_pos_right a (by omega))
    have hab : (wl b).length ≤ (wl a).length := Lw_mono hba
    refine ⟨⟨by simp only [maxLen]; omega, by omega⟩, CallFT.mk (ntimes_r hG b σ hb (by omega)) ?_⟩
    simp (maxSteps := 10000000) only [↓sx, sx, ↓ty, ↓reduceIte, Nat.reduceEqDiff, Nat.reduceAdd, Nat.reduceLT]
    refine vcIf_b (fun h2 => ?_) (fun h2 => ?_)
    · exfalso
      rw [beq_iff_eq] at h2
      omega
    have hv := wl_norm (b * σ)
    have hvv := wl_val (b * σ)
    have hvl : (wl (b * σ)).length = (wl b).length := scaled_len hB hbne hv s s1 (by rw [hx]; exact s3) (by rw [hvv, hvb, hσ, Int.natCast_mul])
    have hul0 : (wl (a * σ) ++ [0]).length = (wl (a * σ)).length + 1 := by simp
    have hn1 : IntKind.i64.wrap ((((wl (a * σ)).length + 1 : Nat) : Int) - ((wl (b * σ)).length : Int)) = (((wl (a * σ)).length + 1 - (wl (b * σ)).length : Nat) : Int) := by rw [i64_id] <;> omega
    have hn2 : IntKind.i64.wrap ((((wl (a * σ)).length + 1 - (wl (b * σ)).length : Nat) : Int) - 1) = (((wl (a * σ)).length + 1 - (wl (b * σ)).length : Nat) : Int) - 1 := by rw [i64_id] <;> omega
    rw [hn1]
    refine ⟨⟨by omega, by omega, by omega, by omega⟩, ?_⟩
    have hu0 : Dig (wl (a * σ) ++ [0]) := hwd.1.append (Dig.cons (by omega) (by omega) Dig.nil)
    have huv0 : val (wl (a * σ) ++ [0]) = val (wl a) * s := by
      rw [val_append, hwv, hva, hσ]; simp [val]
    have hucs : List.map wv (wl (a * σ) ++ [0]) = List.map wv (wl (a * σ)) ++ [.val (.int .u32 0)] := by
      rw [List.map_append]; rfl
    have hhead := scaled_head hA.1 hB hbne hu0 s s1 huv0 (by omega) (by omega) (val (wl (b * σ))) (by rw [hvv, hvb, hσ, Int.natCast_mul])
    rw [hul0] at hhead
    have hvtop := hv.2 (by intro h; rw [h] at hvl; simp at hvl; omega)
    have hvp : 0 < val (wl (b * σ)) := hv.pos (by intro h; rw [h] at hvl; simp at hvl; omega)
    generalize hgL : (wl (a * σ)).length + 1 = L at *
    generalize hgu : wl (a * σ) ++ [0] = u0 at *
    generalize hgv : wl (b * σ) = v at *
    rw [← hvl] at hhead
    refine loopK_of (fun x : List Int × List Int × Nat => [(10, .p (.sl 1 [wv s])), (11, .orow 83), (12, .orow 88), (13, .p (.val (.int .i64 (v.length : Nat)))), (14, .orow 103), (15, .p (.val (.int .i64 ((x.2.2 : Int) - 1))))]) (fun _ => []) (fun x => [(83, ⟨95, 1, x.1.length, x.1.map wv, false⟩), (88, ⟨95, 1, v.length, v.map wv, false⟩), (103, ⟨95, 1, x.2.1.length, x.2.1.map wv, false⟩)]) (overInv v L (val (wl a) * s)) (fun x => x.2.2) (u0, List.replicate (L - v.length) 0, L - v.length) ?_ ?_ ?_
    · refine ⟨by dsimp only; omega, hu0, hul0, Dig.replicate _, by simp, fun j _ => Zf.replicate _ 0 j (Nat.zero_le _), hhead, ?_⟩
      simp [val_replicate, huv0]
    · simp (maxSteps := 10000000) only [isE_nil, is_cons, bo_p, bo_orow, any_cons', all_cons', all_nil', Bool.true_or, Bool.or_true, ↓sx, sx, ↓reduceIte, Nat.reduceEqDiff, Nat.reduceBeqDiff, hn2]
      rw [hwσ, hul0, rep_wv, List.length_replicate, hucs]
      exact ⟨rfl, rfl, rfl⟩
    · rintro ⟨u, q, m⟩ ⟨i1, i2, i3, i4, i5, i6, i7, i8⟩
      dsimp only at i1 i2 i3 i4 i5 i6 i7 i8 ⊢
      simp (maxSteps := 10000000) only [↓sx, sx, ↓ty, ↓reduceIte, Nat.reduceEqDiff, Nat.reduceBeqDiff, wv_c]
      refine vcIf_dec (fun hm => ?_) (fun hm => ?_)
      · obtain ⟨k, rfl⟩ : ∃ k, m = k + 1 := ⟨m - 1, by omega⟩
        rw [show (((k + 1 : Nat) : Int) - 1) = (k : Int) by omega]
        have g : Guess u v k := ⟨i2, hv.1, by omega, by omega, by omega, hvtop, i7⟩
        have hv1 := g.v1
        have hul2 := i2.getD (k + v.length - 1)
        have huh := i2.getD (k + v.length)
        obtain ⟨t0, t1, t2, t3, t4, t5, t6, t7⟩ := guess_begin g _ rfl
        have x1 : IntKind.i64.wrap ((k : Int) + (v.length : Int)) = ((k + v.length : Nat) : Int) := by rw [i64_id] <;> omega
        have x2 : IntKind.i64.wrap (((k + v.length : Nat) : Int) - 1) = ((k + v.length - 1 : Nat) : Int) := by rw [i64_id] <;> omega
        have x3 : IntKind.i64.wrap ((v.length : Int) - 1) = ((v.length - 1 : Nat) : Int) := by rw [i64_id] <;> omega
        rw [x1, x2, x3, Int.toNat_natCast (k + v.length), Int.toNat_natCast (k + v.length - 1), Int.toNat_natCast (v.length - 1)]
        rw [u64_id (x := u.getD (k + v.length) 0) (by omega) (by omega), u64_id (x := u.getD (k + v.length - 1) 0) (by omega) (by omega), u64_id (x := u.getD (k + v.length) 0 * 1000000000) (by omega) (by omega), u64_id (x := u.getD (k + v.length) 0 * 1000000000 + u.getD (k + v.length - 1) 0) (by omega) (by omega), u64_id (x := v.getD (v.length - 1) 0) (by omega) (by omega)]
        generalize hT : u.getD (k + v.length) 0 * 1000000000 + u.getD (k + v.length - 1) 0 = T at *
        rw [tdiv_pos t0, tmod_pos t0, u64_id (x := T / v.getD (v.length - 1) 0) (by omega) (by omega)]
        refine ⟨by omega, by omega, by omega, by omega, by omega, by omega, by omega, by omega, by omega, by omega, ?_⟩
        refine cut_of (fun t : Int => [(10, .p (.sl 1 [wv s])), (11, .orow 83), (12, .orow 88), (13, .p (.val (.int .i64 (v.length : Nat)))), (14, .orow 103), (15, .p (.val (.int .i64 (k : Nat)))), (17, .p (.val (.int .u64 t)))]) (fun _ => []) (fun t => [(83, ⟨95, 1, u.length, u.map wv, false⟩), (88, ⟨95, 1, v.length, v.map wv, false⟩), (103, ⟨95, 1, q.length, q.map wv, false⟩)]) (fun t => 0 ≤ t ∧ t < 1000000000 ∧ (t - 1) * val v ≤ val (u.drop k) ∧ val (u.drop k) < (t + 1) * val v) ?_ ?_
        · simp (maxSteps := 10000000) only [↓sx, sx, wv_c]
          refine loopK_of (fun x : Int × Int => [(10, .p (.sl 1 [wv s])), (11, .orow 83), (12, .orow 88), (13, .p (.val (.int .i64 (v.length : Nat)))), (14, .orow 103), (15, .p (.val (.int .i64 (k : Nat)))), (17, .p (.val (.int .u64 x.1))), (18, .p (.val (.int .u64 x.2)))]) (fun _ => []) (fun x => [(83, ⟨95, 1, u.length, u.map wv, false⟩), (88, ⟨95, 1, v.length, v.map wv, false⟩), (103, ⟨95, 1, q.length, q.map wv, false⟩)]) (fun x => overInv2 u v k x ∧ x.2 < 1000000000) (fun x => x.1.toNat) (T / v.getD (v.length - 1) 0, T % v.getD (v.length - 1) 0) ?_ ?_ ?_
          · exact ⟨⟨t2, t3, t4, by dsimp only; omega, by rw [hT]; exact t6, t7⟩, t5⟩
          · simp (maxSteps := 10000000) only [isE_nil, is_cons, bo_p, bo_orow, any_cons', all_cons', all_nil', Bool.true_or, Bool.or_true, ↓sx, sx, ↓reduceIte, Nat.reduceEqDiff, Nat.reduceBeqDiff, wv_c]
          · rintro ⟨t, r⟩ ⟨⟨j1, j2, j3, j4, j5, j6⟩, j7⟩
            dsimp only at j1 j2 j3 j4 j5 j6 j7 ⊢
            simp (maxSteps := 10000000) only [↓sx, sx, ↓ty, ↓reduceIte, Nat.reduceEqDiff, Nat.reduceBeqDiff, Nat.reduceLT, wv_c]
            have hv2 := g.dv.getD (v.length - 2)
            have hu2 := i2.getD (k + v.length - 2)
            have x4 : IntKind.i64.wrap ((v.length : Int) - 2) = ((v.length - 2 : Nat) : Int) := by rw [i64_id] <;> omega
            have x5 : IntKind.i64.wrap (((k + v.length : Nat) : Int) - 2) = ((k + v.length - 2 : Nat) : Int) := by rw [i64_id] <;> omega
            have exit : 1000000000 ≤ r + v.getD (v.length - 1) 0 ∧ (1000000000 ≤ t ∨ r * 1000000000 + u.getD (k + v.length - 2) 0 < t * v.getD (v.length - 2) 0) → 0 ≤ t - 1 ∧ t - 1 < 1000000000 ∧ (t - 1 - 1) * val v ≤ val (u.drop k) ∧ val (u.drop k) < (t - 1 + 1) * val v := by
              rintro ⟨h1, h2⟩
              obtain ⟨w1, w2⟩ := g.down j1 j5 j3 h2
              obtain ⟨w3, w4⟩ := g.stay (t := t - 1) (ρ := r + v.getD (v.length - 1) 0) (by omega) (by rw [← j5]; grind) (by omega) (.inl h1)
              exact ⟨by omega, w3, w4, by rw [show t - 1 + 1 = t by omega]; exact w2⟩
            have stop : t < 1000000000 ∧ t * v.getD (v.length - 2) 0 ≤ r * 1000000000 + u.getD (k + v.length - 2) 0 → 0 ≤ t ∧ t < 1000000000 ∧ (t - 1) * val v ≤ val (u.drop k) ∧ val (u.drop k) < (t + 1) * val v := by
              intro h
              obtain ⟨w1, w2⟩ := g.stay j1 j5 j3 (.inr h)
              exact ⟨j1, w1, w2, j6⟩
            have down : (1000000000 ≤ t ∨ r * 1000000000 + u.getD (k + v.length - 2) 0 < t * v.getD (v.length - 2) 0) → r + v.getD (v.length - 1) 0 < 1000000000 → (overInv2 u v k (t - 1, r + v.getD (v.length - 1) 0) ∧ r + v.getD (v.length - 1) 0 < 1000000000) ∧ 1 ≤ t := by
              intro hd hr
              obtain ⟨w1, w2⟩ := g.down j1 j5 j3 hd
              refine ⟨⟨⟨by dsimp only; omega, by dsimp only; omega, by dsimp only; omega, by dsimp only; omega, ?_, by dsimp only; rw [show t - 1 + 1 = t by omega]; exact w2⟩, hr⟩, w1⟩
              dsimp only
              rw [← j5]; grind
            have t1' : (1000000000 ≤ t ∨ r * 1000000000 + u.getD (k + v.length - 2) 0 < t * v.getD (v.length - 2) 0) → 1 ≤ t := fun hd => (g.down j1 j5 j3 hd).1
            rw [x3, Int.toNat_natCast (v.length - 1)]
            refine vcIf_dec (fun hB2 => ?_) (fun hB2 => ?_)
            · have ht1 := t1' (.inl hB2)
              rw [u64_id (x := v.getD (v.length - 1) 0) (by omega) (by omega), u64_id (x := r + v.getD (v.length - 1) 0) (by omega) (by omega), u64_id (x := t - 1) (by omega) (by omega)]
              refine ⟨by omega, by omega, vcIf_dec (fun hr => ?_) (fun hr => ?_)⟩
              · refine CutK.mk (t - 1) (exit ⟨by omega, .inl hB2⟩) ?_
                simp (maxSteps := 10000000) only [isE_nil, is_cons, bo_p, bo_orow, any_cons', all_cons', all_nil', Bool.true_or, Bool.or_true, ↓sx, sx, ↓reduceIte, Nat.reduceEqDiff, Nat.reduceBeqDiff]
              · refine NextK.mk (t - 1, r + v.getD (v.length - 1) 0) (by dsimp only; omega) (down (.inl hB2) (by omega)).1 ?_
                simp (maxSteps := 10000000) only [isE_nil, is_cons, bo_p, bo_orow, any_cons', all_cons', all_nil', Bool.true_or, Bool.or_true, ↓sx, sx, ↓reduceIte, Nat.reduceEqDiff, Nat.reduceBeqDiff]
            · have htv : 0 ≤ t * v.getD (v.length - 2) 0 ∧ t * v.getD (v.length - 2) 0 ≤ 999999998000000001 := mul_step (o := 0) (c := 0) (by omega) (by omega) hv2 (by omega)
              rw [x1, x4, x5, Int.toNat_natCast (v.length - 2), Int.toNat_natCast (k + v.length - 2)]
              rw [u64_id (x := v.getD (v.length - 2) 0) (by omega) (by omega), u64_id (x := t * v.getD (v.length - 2) 0) (by omega) (by omega), u64_id (x := u.getD (k + v.length - 2) 0) (by omega) (by omega), u64_id (x := r * 1000000000) (by omega) (by omega), u64_id (x := r * 1000000000 + u.getD (k + v.length - 2) 0) (by omega) (by omega)]
              refine ⟨by omega, by omega, by omega, by omega, vcIf_dec (fun ht2 => ?_) (fun ht2 => ?_)⟩
              · have ht1 := t1' (.inr (by omega))
                rw [u64_id (x := v.getD (v.length - 1) 0) (by omega) (by omega), u64_id (x := r + v.getD (v.length - 1) 0) (by omega) (by omega), u64_id (x := t - 1) (by omega) (by omega)]
                refine ⟨by omega, by omega, vcIf_dec (fun hr => ?_) (fun hr => ?_)⟩
                · refine CutK.mk (t - 1) (exit ⟨by omega, .inr (by omega)⟩) ?_
                  simp (maxSteps := 10000000) only [isE_nil, is_cons, bo_p, bo_orow, any_cons', all_cons', all_nil', Bool.true_or, Bool.or_true, ↓sx, sx, ↓reduceIte, Nat.reduceEqDiff, Nat.reduceBeqDiff]
                · refine NextK.mk (t - 1, r + v.getD (v.length - 1) 0) (by dsimp only; omega) (down (.inr (by omega)) (by omega)).1 ?_
                  simp (maxSteps := 10000000) only [isE_nil, is_cons, bo_p, bo_orow, any_cons', all_cons', all_nil', Bool.true_or, Bool.or_true, ↓sx, sx, ↓reduceIte, Nat.reduceEqDiff, Nat.reduceBeqDiff]
              · refine CutK.mk t (stop ⟨by omega, by omega⟩) ?_
                simp (maxSteps := 10000000) only [isE_nil, is_cons, bo_p, bo_orow, any_cons', all_cons', all_nil', Bool.true_or, Bool.or_true, ↓sx, sx, ↓reduceIte, Nat.reduceEqDiff, Nat.reduceBeqDiff]
        · rintro t ⟨c1, c2, c3, c4⟩
          simp (maxSteps := 10000000) only [↓sx, sx, ↓reduceIte, Nat.reduceEqDiff, Nat.reduceBeqDiff, wv_c]
          refine loopK_of (fun x : List Int × Int × Int × Nat => [(10, .p (.sl 1 [wv s])), (11, .orow 83), (12, .orow 88), (13, .p (.val (.int .i64 (v.length : Nat)))), (14, .orow 103), (15, .p (.val (.int .i64 (k : Nat)))), (17, .p (.val (.int .u64 t))), (19, .p (.val (.int .i64 x.2.2.1))), (20, .p (.val (.int .i64 x.2.1))), (180, .p (.val (.int .i64 (v.length : Nat)))), (181, .p (.val (.int .i64 (x.2.2.2 : Nat))))]) (fun _ => []) (fun x => [(83, ⟨95, 1, x.1.length, x.1.map wv, false⟩), (88, ⟨95, 1, v.length, v.map wv, false⟩), (103, ⟨95, 1, q.length, q.map wv, false⟩)]) (redInv u v k t) (fun x => v.length - x.2.2.2) (u, 0, 0, 0) ?_ ?_ ?_
          · refine ⟨i2, rfl, rfl, fun _ _ => rfl, by dsimp only; omega, by dsimp only; omega, Nat.zero_le _, ?_⟩
            simp [val_nil]
          · simp (maxSteps := 10000000) only [isE_nil, is_cons, bo_p, bo_orow, any_cons', all_cons', all_nil', Bool.true_or, Bool.or_true, ↓sx, sx, ↓reduceIte, Nat.reduceEqDiff, Nat.reduceBeqDiff, wv_c]
            rfl
          · rintro ⟨u1, bo, c, i⟩ ⟨g1, g2, g3, g4, g5, g6, g7, g8⟩
            dsimp only at g1 g2 g3 g4 g5 g6 g7 g8 ⊢
            simp (maxSteps := 10000000) only [↓sx, sx, ↓ty, ↓reduceIte, Nat.reduceEqDiff, Nat.reduceBeqDiff, Nat.reduceAdd, Int.reduceEq, wv_c]
            refine vcIf_dec (fun hi => ?_) (fun hi => ?_)
            · have hy := hv.1.getD i
              have hxu := g1.getD (k + i)
              have hmm := mul_step (o := 0) (c := c) (by omega) ⟨c1, c2⟩ hy g6
              have hval := val_take_succ v i (by omega)
              have y1 : IntKind.i64.wrap ((i : Int) + (k : Int)) = ((k + i : Nat) : Int) := by rw [i64_id] <;> omega
              rw [y1, Int.toNat_natCast (k + i)]
              rw [i64_id (x := t) (by omega) (by omega), i64_id (x := v.getD i 0) (by omega) (by omega), i64_id (x := t * v.getD i 0) (by omega) (by omega), i64_id (x := t * v.getD i 0 + c) (by omega) (by omega)]
              generalize hp : t * v.getD i 0 + c = p at *
              have hp0 : 0 ≤ p ∧ p < 1000000000000000000 := by omega
              have hpe : p = 1000000000 * (p / 1000000000) + p % 1000000000 := by omega
              rw [tmod_pos hp0.1, tdiv_pos hp0.1, i64_id (x := p / 1000000000) (by omega) (by omega), i64_id (x := u1.getD (k + i) 0) (by omega) (by omega), i64_id (x := u1.getD (k + i) 0 - p % 1000000000) (by omega) (by omega), i64_id (x := u1.getD (k + i) 0 - p % 1000000000 - bo) (by omega) (by omega)]
              refine ⟨by omega, by omega, by omega, by omega, ?_⟩
              have fin : ∀ {e : Env} {h : Hp} {ρ : Rws} {tg : Tag (redInv u v k t, (fun x : List Int × Int × Int × Nat => v.length - x.2.2.2), e, h, ρ)} (d b' : Int), d = u1.getD (k + i) 0 - p % 1000000000 - bo + 1000000000 * b' → 0 ≤ d → d < 1000000000 → 0 ≤ b' → b' ≤ 1 →
                  e 10 = .p (.sl 1 [wv s]) → e 11 = .orow 83 → e 12 = .orow 88 → e 13 = .p (.val (.int .i64 (v.length : Nat))) → e 14 = .orow 103 → e 15 = .p (.val (.int .i64 (k : Nat))) → e 17 = .p (.val (.int .u64 t)) → e 19 = .p (.val (.int .i64 (p / 1000000000))) → e 20 = .p (.val (.int .i64 b')) → e 180 = .p (.val (.int .i64 (v.length : Nat))) → e 181 = .p (.val (.int .i64 (IntKind.i64.wrap ((i : Int) + 1)))) →
                  ρ 83 = some ⟨95, 1, u1.length, (u1.take (k + i)).map wv ++ [.val (.int .u32 d)] ++ (u1.drop (k + i + 1)).map wv, false⟩ → ρ 88 = some ⟨95, 1, v.length, v.map wv, false⟩ → ρ 103 = some ⟨95, 1, q.length, q.map wv, false⟩ →
                  NextK (fun x : List Int × Int × Int × Nat => [(10, .p (.sl 1 [wv s])), (11, .orow 83), (12, .orow 88), (13, .p (.val (.int .i64 (v.length : Nat)))), (14, .orow 103), (15, .p (.val (.int .i64 (k : Nat)))), (17, .p (.val (.int .u64 t))), (19, .p (.val (.int .i64 x.2.2.1))), (20, .p (.val (.int .i64 x.2.1))), (180, .p (.val (.int .i64 (v.length : Nat)))), (181, .p (.val (.int .i64 (x.2.2.2 : Nat))))]) (fun _ => []) (fun x => [(83, ⟨95, 1, x.1.length, x.1.map wv, false⟩), (88, ⟨95, 1, v.length, v.map wv, false⟩), (103, ⟨95, 1, q.length, q.map wv, false⟩)]) (redInv u v k t) (fun x => v.length - x.2.2.2) (u1, bo, c, i) e h ρ tg := by
                intro e h ρ tg d b' hd hd0 hd1 hb0 hb1 e10 e11 e12 e13 e14 e15 e17 e19 e20 e180 e181 r83 r88 r103
                rw [i64_id (by omega) (by omega)] at e181
                rw [set_wv _ _ _ (by omega)] at r83
                refine NextK.mk (u1.set (k + i) d, b', p / 1000000000, i + 1) (by dsimp only; omega) ⟨g1.set _ hd0 hd1, by simp [g2], by rw [take_set_of_le _ _ _ _ (by omega)]; exact g3, (fun j hj => by dsimp only; rw [Gb.getD_set_ne _ _ _ _ (by omega)]; exact g4 j hj), ⟨hb0, hb1⟩, by dsimp only; omega, by dsimp only; omega, ?_⟩ ?_
                · dsimp only
                  rw [val_set _ _ _ (by omega), hval, ← Nat.add_assoc, Int.pow_succ]
                  rw [Int.pow_add] at g8 ⊢
                  generalize (1000000000 : Int) ^ k = Pa at *
                  generalize (1000000000 : Int) ^ i = Pi at *
                  generalize p / 1000000000 = pq at *
                  generalize p % 1000000000 = pr at *
                  subst hd
                  grind
                · simp (maxSteps := 10000000) only [isE_nil, is_cons, bo_p, bo_orow, any_cons', all_cons', all_nil', Bool.true_or, Bool.or_true, ↓sx, sx, Nat.reduceBeqDiff, wv_c, e10, e11, e12, e13, e14, e15, e17, e19, e20, e180, e181, r83, r88, r103]
                  simp [wv_c]
              refine vcIf_dec (fun hn => ?_) (fun hn => ?_)
              · rw [i64_id (x := u1.getD (k + i) 0 - p % 1000000000 - bo + 1000000000) (by omega) (by omega), u32_id (x := u1.getD (k + i) 0 - p % 1000000000 - bo + 1000000000) (by omega) (by omega)]
                refine ⟨by omega, by omega, ?_⟩
                refine fin (u1.getD (k + i) 0 - p % 1000000000 - bo + 1000000000) 1 (by omega) (by omega) (by omega) (by omega) (by omega) ?_ ?_ ?_ ?_ ?_ ?_ ?_ ?_ ?_ ?_ ?_ ?_ ?_ ?_
                all_goals (simp (maxSteps := 10000000) only [↓sx, sx, ↓reduceIte, Nat.reduceEqDiff, wv_c]; done)
              · rw [u32_id (x := u1.getD (k + i) 0 - p % 1000000000 - bo) (by omega) (by omega)]
                refine ⟨by omega, by omega, ?_⟩
                refine fin (u1.getD (k + i) 0 - p % 1000000000 - bo) 0 (by omega) (by omega) (by omega) (by omega) (by omega) ?_ ?_ ?_ ?_ ?_ ?_ ?_ ?_ ?_ ?_ ?_ ?_ ?_ ?_
                all_goals (simp (maxSteps := 10000000) only [↓sx, sx, ↓reduceIte, Nat.reduceEqDiff, wv_c]; done)
            · obtain rfl : i = v.length := by omega
              rw [List.take_length] at g8
              have R0 : Red u v u1 k t bo c := ⟨i2, hv.1, by omega, ⟨c1, c2⟩, c3, c4, hvp, g.zf, g1, g2, g3, g4, g5, g6, g8⟩
              have hw9 := g4 (k + v.length) (Nat.le_refl _)
              rw [x1, Int.toNat_natCast (k + v.length), hw9]
              rw [i64_id (x := u.getD (k + v.length) 0) (by omega) (by omega), i64_id (x := u.getD (k + v.length) 0 - c) (by omega) (by omega), i64_id (x := u.getD (k + v.length) 0 - c - bo) (by omega) (by omega)]
              refine ⟨by omega, by omega, vcIf_dec (fun hn => ?_) (fun hn => ?_)⟩
              · obtain ⟨n1, n2, n3⟩ := R0.neg hn
                rw [n2, u64_id (x := t - 1) (by omega) (by omega)]
                refine loopK_of (fun x : List Int × Int × Nat => [(10, .p (.sl 1 [wv s])), (11, .orow 83), (12, .orow 88), (13, .p (.val (.int .i64 (v.length : Nat)))), (14, .orow 103), (15, .p (.val (.int .i64 (k : Nat)))), (17, .p (.val (.int .u64 (t - 1)))), (24, .p (.val (.int .i64 (-1)))), (25, .p (.val (.int .u64 x.2.1))), (235, .p (.val (.int .i64 (v.length : Nat)))), (236, .p (.val (.int .i64 (x.2.2 : Nat))))]) (fun _ => []) (fun x => [(83, ⟨95, 1, x.1.length, x.1.map wv, false⟩), (88, ⟨95, 1, v.length, v.map wv, false⟩), (103, ⟨95, 1, q.length, q.map wv, false⟩)]) (redInv2 u1 v k) (fun x => v.length - x.2.2) (u1, 0, 0) ?_ ?_ ?_
                · refine ⟨g1, rfl, rfl, fun _ _ => rfl, Int.le_refl _, by dsimp only; omega, Nat.zero_le _, ?_⟩
                  simp [val_nil]
                · simp (maxSteps := 10000000) only [isE_nil, is_cons, bo_p, bo_orow, any_cons', all_cons', all_nil', Bool.true_or, Bool.or_true, ↓sx, sx, ↓reduceIte, Nat.reduceEqDiff, Nat.reduceBeqDiff, wv_c]
                  rfl
                · rintro ⟨u2, c2, i⟩ ⟨k1, k2, k3, k4, k5, k5b, k6, k7⟩
                  dsimp only at k1 k2 k3 k4 k5 k5b k6 k7 ⊢
                  simp (maxSteps := 10000000) only [↓sx, sx, ↓ty, ↓reduceIte, Nat.reduceEqDiff, Nat.reduceBeqDiff, Nat.reduceAdd, Int.reduceEq, wv_c]
                  refine vcIf_dec (fun hi => ?_) (fun hi => ?_)
                  · have hy := hv.1.getD i
                    have hxu := k1.getD (k + i)
                    have hval := val_take_succ v i (by omega)
                    have y1 : IntKind.i64.wrap ((i : Int) + (k : Int)) = ((k + i : Nat) : Int) := by rw [i64_id] <;> omega
                    rw [y1, Int.toNat_natCast (k + i)]
                    rw [u64_id (x := u2.getD (k + i) 0) (by omega) (by omega), u64_id (x := v.getD i 0) (by omega) (by omega), u64_id (x := u2.getD (k + i) 0 + v.getD i 0) (by omega) (by omega), u64_id (x := c2 + (u2.getD (k + i) 0 + v.getD i 0)) (by omega) (by omega)]
                    generalize hs4 : c2 + (u2.getD (k + i) 0 + v.getD i 0) = s4 at *
                    rw [tmod_pos (x := s4) (by omega), tdiv_pos (x := s4) (by omega), u64_id (x := s4 / 1000000000) (by omega) (by omega), u32_id (x := s4 % 1000000000) (by omega) (by omega)]
                    refine ⟨by omega, by omega, by omega, by omega, by omega, by omega, ?_⟩
                    refine NextK.mk (u2.set (k + i) (s4 % 1000000000), s4 / 1000000000, i + 1) (by dsimp only; omega) ⟨k1.set _ (by omega) (by omega), by simp [k2], by rw [take_set_of_le _ _ _ _ (by omega)]; exact k3, (fun j hj => by dsimp only; rw [Gb.getD_set_ne _ _ _ _ (by omega)]; exact k4 j hj), by dsimp only; omega, by dsimp only; omega, by dsimp only; omega, ?_⟩ ?_
                    · dsimp only
                      rw [val_set _ _ _ (by omega), hval, ← Nat.add_assoc, Int.pow_succ]
                      rw [Int.pow_add] at k7 ⊢
                      have : s4 = 1000000000 * (s4 / 1000000000) + s4 % 1000000000 := by omega
                      generalize (1000000000 : Int) ^ k = Pa at *
                      generalize (1000000000 : Int) ^ i = Pi at *
                      generalize s4 / 1000000000 = sq at *
                      generalize s4 % 1000000000 = sr at *
                      grind
                    · simp (maxSteps := 10000000) only [isE_nil, is_cons, bo_p, bo_orow, any_cons', all_cons', all_nil', Bool.true_or, Bool.or_true, ↓sx, sx, ↓reduceIte, Nat.reduceEqDiff, Nat.reduceBeqDiff]
                      rw [set_wv _ _ _ (by omega), i64_id (by omega) (by omega)]
                      simp [wv_c]
                  · obtain rfl : i = v.length := by omega
                    rw [List.take_length] at k7
                    have k4t := k4 (k + v.length) (Nat.le_refl _)
                    have hu1t := g1.getD (k + v.length)
                    obtain ⟨m1, m2, m3, m4⟩ := n3 (u2.set (k + v.length) 999999999) c2 (k1.set _ (by omega) (by omega)) (by simp [k2, g2]) (by rw [take_set_of_le _ _ _ _ (by omega), take_set_of_le _ _ _ _ (by omega)]; exact k3) (fun j hj => by
                      by_cases hjt : j = k + v.length
                      · subst hjt; rw [Gb.getD_set_same _ _ _ (by omega), Gb.getD_set_same _ _ _ (by omega)]
                      · rw [Gb.getD_set_ne _ _ _ _ (by omega), Gb.getD_set_ne _ _ _ _ (by omega)]; exact k4 j hj) k5 k5b (by
                      rw [val_set _ _ _ (by omega), val_set _ _ _ (by omega), k4t]
                      generalize (1000000000 : Int) ^ (k + v.length) = Pt at *
                      generalize (999999999 - u1.getD (k + v.length) 0) * Pt = z at *
                      omega)
                    subst m1
                    rw [List.set_set] at m4
                    rw [x1, Int.toNat_natCast (k + v.length)]
                    refine ⟨by omega, by omega, by omega, by omega, NextK.mk (redU u v k, q.set k (val (u.drop k) / val v), k) (by dsimp only; omega) (overInv_next g ⟨i1, i2, i3, i4, i5, i6, i7, i8⟩) ?_⟩
                    simp (maxSteps := 10000000) only [isE_nil, is_cons, bo_p, bo_orow, any_cons', all_cons', all_nil', Bool.true_or, Bool.or_true, ↓sx, sx, ↓reduceIte, Nat.reduceEqDiff, Nat.reduceBeqDiff]
                    rw [set_wv _ _ _ (by omega), show IntKind.u32.wrap (if (0 : Int) > IntKind.i64.wrap (-1 + IntKind.i64.wrap 1) then 0 else IntKind.i64.wrap (-1 + IntKind.i64.wrap 1)) = 0 by decide, set_wv _ _ _ (by omega), m4, u32_id (x := t - 1) (by omega) (by omega), m2, redU_len (by omega), k2, g2, i64_id (x := (k : Int) - 1) (by omega) (by omega)]
                    simp [wv_c]
              · obtain ⟨p1, p2, p3⟩ := R0.pos (by omega)
                refine ⟨by omega, by omega, by omega, by omega, NextK.mk (redU u v k, q.set k (val (u.drop k) / val v), k) (by dsimp only; omega) (overInv_next g ⟨i1, i2, i3, i4, i5, i6, i7, i8⟩) ?_⟩
                simp (maxSteps := 10000000) only [isE_nil, is_cons, bo_p, bo_orow, any_cons', all_cons', all_nil', Bool.true_or, Bool.or_true, ↓sx, sx, ↓reduceIte, Nat.reduceEqDiff, Nat.reduceBeqDiff]
                rw [if_neg (by omega), u32_id (x := u.getD (k + v.length) 0 - c - bo) (by omega) (by omega), set_wv _ _ _ (by omega), set_wv _ _ _ (by omega), p3, u32_id (x := t) (by omega) (by omega), p2, redU_len (by omega), g2, i64_id (x := (k : Int) - 1) (by omega) (by omega)]
                simp [wv_c]
      · obtain rfl : m = 0 := by omega
        rw [List.drop_zero] at i7
        have hu9 := val_nonneg i2
        have hzu := zf_of_lt u i2 0 v.length (by rw [List.drop_zero]; have := (val_bounds hv.1).2; omega)
        rw [Nat.zero_add] at hzu
        have hvu := val_take_zf u v.length (by omega) hzu
        obtain ⟨μ, hμ⟩ : ∃ μ : Nat, val u = (μ : Int) := ⟨(val u).toNat, by omega⟩
        have hq9 := quot_of (a := (a : Int)) (b := (b : Int)) (s := s) (Q := val q) (rem := val u) (by omega) (by omega) (by rw [← hva, ← i8, hvv, hσ, Int.natCast_mul]; omega) hu9 (by rw [hvv, Int.natCast_mul, ← hσ] at i7; exact i7)
        have hqv : val q = ((a / b : Nat) : Int) := by rw [hq9.1, Int.natCast_ediv]
        have hrv : μ / σ = a % b := by
          have := hq9.2
          rw [hμ, hσ, ← Int.natCast_ediv, ← Int.natCast_emod] at this
          exact Int.ofNat_inj.1 this
        have htl : (u.take v.length).length = v.length := by rw [List.length_take]; omega
        have hμL : Lw μ < 1000000 := by
          have h7 : μ < b * σ := by rw [hvv, hμ] at i7; exact Int.ofNat_lt.1 i7
          have h8 := Lw_mono (Nat.le_of_lt h7)
          have h9 : Lw (b * σ) = v.length := by unfold Lw; rw [hgv]
          omega
        refine CallT.to (by have := nsmall_n hG σ (by omega); rw [if_pos (by omega), decide_eq_true (by omega)] at this; exact this) (by rw [nP_c, hwσ]; rfl) ?_
        simp (maxSteps := 10000000) only [↓sx, sx, ↓ty, ↓reduceIte, Nat.reduceEqDiff]
        refine ⟨by omega, ?_⟩
        refine CallT.to (ntrim_n hG (u.take v.length) (by omega) (i2.take v.length) μ (by rw [hvu, hμ])) (by rw [htl]) ?_
        simp (maxSteps := 10000000) only [↓sx, sx, ↓reduceIte, Nat.reduceEqDiff, nP_c]
        refine CallT.mk (nby_n hG μ σ hμL (by omega) (by omega)) ?_
        simp (maxSteps := 10000000) only [↓sx, sx, ↓reduceIte, Nat.reduceEqDiff, nP_c]
        refine CallT.mk (ntrim_n hG q (by omega) i4 (a / b) hqv) ?_
        simp (maxSteps := 10000000) only [↓sx, sx, ↓reduceIte, Nat.reduceEqDiff, nP_c]
        rw [hrv]
end Go.Proofs.YtnlabeglboomlaaGreatDoor.S
namespace Go.Proofs.YtnlabeglboomlaaGreatDoor.S
open Go Go.Sx Go.RowKit Gb
variable {G : World → Prop} (hG : ∀ w w', G w → Below w.heap.size w w' → G w')
include hG
set_option maxRecDepth 100000 in
set_option maxHeartbeats 20000000 in
theorem ngcd_n (a b : Nat) (ha : Lw a < 1000000) (hb : Lw b < 1000000) : Meets Tryz.prog G 161 [nP a, nP b] (nP (Nat.gcd a b)) := by
  refine meets_of_vc (Y := {}) (N := 45) (rs := [.tmp 4]) mix tk hG Tryz.func161 rfl (by kernel_rfl) rfl rfl (by simp) (by kernel_rfl) ?_
  simp (maxSteps := 10000000) only [↓sx, sx, ↓ty]
  refine loopK_of (fun s : Nat × Nat => [(0, .p (nP s.1)), (1, .p (nP s.2))]) (fun _ => []) (fun _ => []) (fun s => Lw s.1 < 1000000 ∧ Lw s.2 < 1000000 ∧ Nat.gcd s.1 s.2 = Nat.gcd a b) (fun s => s.2) (a, b) ⟨ha, hb, rfl⟩ ?_ ?_
  · simp (maxSteps := 10000000) only [isE_nil, is_cons, bo_p, all_nil', ↓sx, sx, ↓reduceIte, Nat.reduceEqDiff]
  · rintro ⟨x, y⟩ ⟨h1, h2, h3⟩
    dsimp only at h1 h2 h3 ⊢
    simp (maxSteps := 10000000) only [↓sx, sx, ↓ty, ↓reduceIte, Nat.reduceEqDiff, nP_c, len_Lw]
    refine vcIf_dec (fun hy => ?_) (fun hy => ?_)
    · have hy0 : y ≠ 0 := by intro h; rw [(Lw_zero_iff y).2 h] at hy; simp at hy
      have hm : x % y < y := Nat.mod_lt _ (by omega)
      have hg : Nat.gcd y (x % y) = Nat.gcd a b := by rw [← h3, Nat.gcd_comm x y, Nat.gcd_rec y x, Nat.gcd_comm]
      have hLm : Lw (x % y) < 1000000 := by have := Lw_mono (Nat.le_of_lt hm); omega
      refine CallT.mk (nsmall_n hG x (by omega)) ?_
      simp (maxSteps := 10000000) only [↓sx, sx, ↓reduceIte, Nat.reduceEqDiff]
      refine CallT.mk (nsmall_n hG y (by omega)) ?_
      simp (maxSteps := 10000000) only [↓sx, sx, ↓reduceIte, Nat.reduceEqDiff, Nat.reduceLT]
      refine vcIf_dec (fun hx2 => ?_) (fun hx2 => ?_)
      · refine vcIf_dec (fun hy2 => ?_) (fun hy2 => ?_)
        · have bx := Lw_two (a := x) hx2
          have by_ := Lw_two (a := y) hy2
          rw [if_pos hx2, if_pos hy2]
          refine loopK_of (fun s : Nat × Nat => [(5, .p (.val (.int .u64 (s.1 : Nat)))), (7, .p (.val (.int .u64 (s.2 : Nat))))]) (fun _ => []) (fun _ => []) (fun s => s.1 < 1000000000000000000 ∧ s.2 < 1000000000000000000 ∧ Nat.gcd s.1 s.2 = Nat.gcd a b) (fun s => s.2) (x, y) ⟨bx, by_, h3⟩ ?_ ?_
          · simp (maxSteps := 10000000) only [isE_nil, is_cons, bo_p, all_nil', ↓sx, sx, ↓reduceIte, Nat.reduceEqDiff]
          · rintro ⟨p, q⟩ ⟨k1, k2, k3⟩
            dsimp only at k1 k2 k3 ⊢
            simp (maxSteps := 10000000) only [↓sx, sx, ↓reduceIte, Nat.reduceEqDiff]
            refine vcIf_dec (fun hq => ?_) (fun hq => ?_)
            · have hpq : p % q < q := Nat.mod_lt _ (by omega)
              have e1 : Int.tmod (p : Int) (q : Int) = ((p % q : Nat) : Int) := by rw [tmod_pos (by omega), Int.natCast_emod]
              refine ⟨by omega, NextK.mk (q, p % q) hpq ⟨k2, by dsimp only; omega, by dsimp only; rw [← k3, Nat.gcd_comm p q, Nat.gcd_rec q p, Nat.gcd_comm]⟩ ?_⟩
              simp (maxSteps := 10000000) only [isE_nil, is_cons, bo_p, all_nil', ↓sx, sx, ↓reduceIte, Nat.reduceEqDiff, e1]
            · have hq : q = 0 := by omega
              subst hq
              rw [Nat.gcd_zero_right] at k3
              refine CallT.mk (nof_n hG p k1) ?_
              simp (maxSteps := 10000000) only [↓sx, sx, ↓reduceIte, nP_c]
              rw [k3]; rfl
        · refine CallT.mk (ndivide_n hG x y h1 h2 (by omega)) ?_
          simp (maxSteps := 10000000) only [↓sx, sx, ↓reduceIte, Nat.reduceEqDiff, nP_c, len_Lw]
          refine NextK.mk (y, x % y) hm ⟨h2, hLm, hg⟩ ?_
          simp (maxSteps := 10000000) only [isE_nil, is_cons, bo_p, all_nil', ↓sx, sx, ↓reduceIte, Nat.reduceEqDiff]
      · refine CallT.mk (ndivide_n hG x y h1 h2 (by omega)) ?_
        simp (maxSteps := 10000000) only [↓sx, sx, ↓reduceIte, Nat.reduceEqDiff, nP_c, len_Lw]
        refine NextK.mk (y, x % y) hm ⟨h2, hLm, hg⟩ ?_
        simp (maxSteps := 10000000) only [isE_nil, is_cons, bo_p, all_nil', ↓sx, sx, ↓reduceIte, Nat.reduceEqDiff]
    · have hy0 : y = 0 := (Lw_zero_iff y).1 (by omega)
      subst hy0
      rw [Nat.gcd_zero_right] at h3
      rw [h3]
end Go.Proofs.YtnlabeglboomlaaGreatDoor.S
namespace Go.Proofs.YtnlabeglboomlaaGreatDoor.T
open Go.RowKit Go.Shelf
attribute [local go_sem] Oper.semAt_some
theorem add_blk (ad : Addr) (j : Nat) : (ad.add j).block = ad.block := by unfold Addr.add; split <;> rfl
abbrev W9 := Fin 1000000000
def upto {α : Type} (f : Nat → α) (k : Nat) : List α := (List.range k).map f
theorem upto_succ {α : Type} (f : Nat → α) (k : Nat) : upto f (k + 1) = upto f k ++ [f k] := by simp [upto, List.range_succ]
theorem upto_length {α : Type} (f : Nat → α) (k : Nat) : (upto f k).length = k := by simp [upto]
def bk (zs : List W9) (len k : Nat) : Nat × W9 := (len - 1 - k, zs[len - 1 - k]?.getD 0)
def Kq (n₀ Bs : Nat) (W W' : World) : Prop := Below n₀ W W' ∧ ∀ c fz, W.heap[Bs]? = some (.cells c 184 fz) → W'.heap[Bs]? = some (.cells c 184 fz)
theorem Kq.refl (n₀ Bs : Nat) (W : World) : Kq n₀ Bs W W := ⟨Below.refl _ _, fun _ _ h => h⟩
theorem Kq.trans {n₀ Bs : Nat} {A B C : World} (h : Kq n₀ Bs A B) (k : Kq n₀ Bs B C) : Kq n₀ Bs A C := ⟨h.1.trans k.1, fun c fz x => k.2 c fz (h.2 c fz x)⟩
theorem Kq.turn {n₀ Bs : Nat} {w : World} (hn : n₀ ≤ w.heap.size) (hb : Bs < w.heap.size) (W : World) (l : Nat) (o o' : Obj) (hl : w.heap.size ≤ l) (h : W.heap[l]? = some o) (h1 : o.isCells = false) (h2 : o.isWalk = false) : Kq n₀ Bs W (W.putObj l o') :=
  ⟨belowK_b hn W l o o' hl h h1 h2, fun c fz x => ((belowK_b (n₀ := Bs + 1) (by omega) W l o o' hl h h1 h2).block Bs (Nat.lt_succ_self _)).trans x⟩
theorem cell_heap {W : World} {b : Nat} {v : Value} {t : TypeId} {fz : Nat × Nat} (h : W.heap[b]? = some (.cells #[v] t fz)) : W.cell? ⟨b, 0, none⟩ = some v := by
  simp [World.cell?, h]
set_option maxRecDepth 100000 in
set_option maxHeartbeats 2000000 in
theorem back1_in (F : Fence) (n : Nat) (h8 : F.fn 218) (hro : F.round = none) (hn : 1 ≤ n) (l Bs n₀ : Nat) (ad : Addr) (len cap : Nat) (zs : List W9) (hreach : len * 4 ≤ 140737488351232) (hb : ad.block < n₀) (J Jx : List (Nat × W9) → World → Prop)
    (hY : ∀ pre x W, J pre W → pre.length < len → YieldAt F (n - 1) Tryz.prog l #[.int .i64 (x.1 : Int), .int .u32 (x.2.val : Int)] W fun e W' =>
      (e = .returned (.bool true) ∧ J (pre ++ [x]) W' ∧ Kq n₀ Bs W W') ∨ (e = .returned (.bool false) ∧ Jx (pre ++ [x]) W'))
    (W : World) (fz : Nat × Nat) (hBs : W.heap[Bs]? = some (.cells #[.slice (some ad) len cap] 184 fz)) (hc : ∀ j, j < len → W.cell? (ad.add j) = some (.int .u32 ((zs[j]?.getD 0).val : Int))) (h0 : J [] W) :
    CallsIn F n Tryz.prog 218 #[.func (.yield l) #[] #[], .pointer (some ⟨Bs, 0, none⟩)] W fun e W' => (∃ v, e = .returned v) ∧
      ((∃ ys, ys = upto (bk zs len) len ∧ J ys W') ∨ (∃ pre, (∃ k, k ≤ len ∧ pre = upto (bk zs len) k) ∧ Jx pre W')) := by
  refine callsIn_of_wp Tryz.func218 rfl h8 ?_ hro
  simp only [Tryz.ntmps218, List.size_toArray, List.length_cons, List.length_nil, Nat.reduceAdd, Nat.reduceSub, Array.replicate_succ, Array.replicate_zero, List.push_toArray, List.append_toArray, List.nil_append, List.cons_append]
  have hBc := cell_heap hBs
  gi_wp2
  gi_loopw [3] (fun i wr => ∃ m : Nat, m ≤ len ∧ i = .int .i64 ((m : Int) - 1) ∧ J (upto (bk zs len) (len - m)) wr ∧ Kq n₀ Bs W wr)
    (fun i _ => (intOf i + 1).toNat)
  case atStart => exact ⟨len, Nat.le_refl _, by simp, by rw [Nat.sub_self]; exact h0, Kq.refl _ _ _⟩
  case round =>
    obtain ⟨m, hm, rfl, hJs, hnx⟩ := hrel
    have hBs' := cell_heap (hnx.2 _ _ hBs)
    cases m with
    | zero =>
      gi_wp2
      go_end0
      exact ⟨⟨_, rfl⟩, .inl ⟨_, rfl, hJs⟩⟩
    | succ m =>
      have hcx' : wr.cell? (ad.add m) = some (.int .u32 ((zs[m]?.getD 0).val : Int)) := (hnx.1.cell (p := ad.add m) (by rw [add_blk]; exact hb)).trans (hc m (by omega))
      obtain ⟨fn, tmps, assign, body, hy, hR⟩ := hY _ (m, zs[m]?.getD 0) wr hJs (by rw [upto_length]; omega)
      dsimp only at hy
      rw [show (((m + 1 : Nat) : Int) - 1) = (m : Int) by omega]
      gi_wp2
      refine hR.mono ?_
      rintro e W3 (⟨rfl, hJ3, hk3⟩ | ⟨rfl, hJx3⟩)
      · gi_wp2
        go_roundw
        case rel =>
          refine ⟨m, by omega, by simp, ?_, hnx.trans hk3⟩
          rw [show len - m = (len - (m + 1)) + 1 by omega, upto_succ]
          have : bk zs len (len - (m + 1)) = (m, zs[m]?.getD 0) := by unfold bk; rw [show len - 1 - (len - (m + 1)) = m by omega]
          rw [this]; exact hJ3
        case measure => simp [intOf]
      · gi_wp2
        refine bodyPost_ret (results_none rfl _ _ _) rfl ?_
        refine ⟨⟨_, rfl⟩, .inr ⟨_, ⟨(len - (m + 1)) + 1, by omega, rfl⟩, ?_⟩⟩
        have : bk zs len (len - (m + 1)) = (m, zs[m]?.getD 0) := by unfold bk; rw [show len - 1 - (len - (m + 1)) = m by omega]
        rw [upto_succ, this]; exact hJx3
set_option maxRecDepth 100000 in
set_option maxHeartbeats 1000000 in
theorem back1_nil_in (F : Fence) (n : Nat) (h8 : F.fn 218) (hro : F.round = none) (l Bs : Nat) (J : List (Nat × W9) → World → Prop) (W : World) (hBs : W.cell? ⟨Bs, 0, none⟩ = some (.slice none 0 0)) (h0 : J [] W) :
    CallsIn F n Tryz.prog 218 #[.func (.yield l) #[] #[], .pointer (some ⟨Bs, 0, none⟩)] W fun e W' => (∃ v, e = .returned v) ∧ J [] W' := by
  refine callsIn_of_wp Tryz.func218 rfl h8 ?_ hro
  simp only [Tryz.ntmps218, List.size_toArray, List.length_cons, List.length_nil, Nat.reduceAdd, Nat.reduceSub, Array.replicate_succ, Array.replicate_zero, List.push_toArray, List.append_toArray, List.nil_append, List.cons_append]
  gi_wp2
  gi_loopw [3] (fun i wr => i = .int .i64 (-1) ∧ J [] wr) (fun _ _ => 0)
  case atStart => exact ⟨by first | rfl | simp, h0⟩
  case round =>
    obtain ⟨rfl, hJs⟩ := hrel
    gi_wp2
    go_end0
    exact ⟨⟨_, rfl⟩, hJs⟩
set_option maxHeartbeats 1000000 in
theorem back_in (F : Fence) (n : Nat) (h6 : F.fn 203) (hro : F.round = none) (a : Option Addr) (len cap : Nat) (w : World) :
    CallsIn F n Tryz.prog 203 #[.slice a len cap] w fun e w' => e = .returned (.func (.func 218) #[] #[.pointer (some ⟨w.heap.size, 0, none⟩)]) ∧ w' = w.alloc (.cells #[.slice a len cap] 184) := by
  refine callsIn_of_wp Tryz.func203 rfl h6 ?_ hro
  simp only [Tryz.ntmps203, List.size_toArray, List.length_cons, List.length_nil, Nat.reduceAdd, Nat.reduceSub, Array.replicate_succ, Array.replicate_zero, List.push_toArray, List.append_toArray, List.nil_append, List.cons_append]
  gi_wp2
  go_ret
  exact ⟨rfl, rfl⟩
def Ints (n₀ : Nat) (w : World) (sv : Value) (zs : List W9) : Prop :=
  (zs = [] ∧ sv = .slice none 0 0) ∨ ∃ ad cap, sv = .slice (some ad) zs.length cap ∧ ad.block < n₀ ∧ ∀ j, j < zs.length → w.cell? (ad.add j) = some (.int .u32 ((zs[j]?.getD 0).val : Int))
theorem Ints.below {n₀ : Nat} {w w' : World} {sv : Value} {zs : List W9} (h : Ints n₀ w sv zs) (hB : Below n₀ w w') : Ints n₀ w' sv zs := by
  rcases h with h | ⟨ad, cap, rfl, hb, hc⟩
  · exact .inl h
  · exact .inr ⟨ad, cap, rfl, hb, fun j hj => (hB.cell (p := ad.add j) (by rw [add_blk]; exact hb)).trans (hc j hj)⟩
theorem back_stops (F : Fence) (n : Nat) (h8 : F.fn 218) (hro : F.round = none) (hn : 1 ≤ n) (Bs n₀ : Nat) (sv : Value) (zs : List W9) (hreach : zs.length * 4 ≤ 140737488351232) (w : World) (hBs : Bs < w.heap.size) (hn₀ : n₀ ≤ w.heap.size) (fz : Nat × Nat)
    (hc : w.heap[Bs]? = some (.cells #[sv] 184 fz)) (hI : Ints n₀ w sv zs) :
    SeqStopsK F n Tryz.prog 218 #[.pointer (some ⟨Bs, 0, none⟩)] (fun x : Nat × W9 => #[Value.int .i64 (x.1 : Int), Value.int .u32 (x.2.val : Int)]) (Kq n₀ Bs) (fun ys => ys = upto (bk zs zs.length) zs.length)
      (fun pre => ∃ k, k ≤ zs.length ∧ pre = upto (bk zs zs.length) k) zs.length w := fun l J Jx W hW _ _ hY h0 => by
  have hc' := (hW.block Bs hBs).trans hc
  rcases hI.below (hW.mono hn₀) with ⟨rfl, rfl⟩ | ⟨ad, cap, rfl, hb, hcs⟩
  · exact (back1_nil_in F n h8 hro l Bs J W (cell_heap hc') h0).mono fun e W' ⟨he, hj⟩ => ⟨he, .inl ⟨_, rfl, hj⟩⟩
  · exact back1_in F n h8 hro hn l Bs n₀ ad zs.length cap zs hreach hb J Jx hY W fz hc' hcs h0
end Go.Proofs.YtnlabeglboomlaaGreatDoor.T
namespace Go.Proofs.YtnlabeglboomlaaGreatDoor.T
open Go.Shelf Go.RowKit Go.Sort Go.Lib
theorem fin_zero (w : World) (o : Obj) (dk : Array UInt8) (k : Nat) : ∃ os, (putRow (fun (b : UInt8) => Value.int .u8 (b.toNat : Int)) (w.alloc o) w.heap.size 0 dk).drewN k = grow (w.drewN k) os := by
  rw [alloc_eq_grow]
  obtain ⟨os', _, e⟩ := putRow_grow_new (fun (b : UInt8) => Value.int .u8 (b.toNat : Int)) w #[o] w.heap.size 0 dk (Nat.le_refl _)
  exact ⟨os', by rw [e]; rfl⟩
set_option maxHeartbeats 6400000 in
set_option maxRecDepth 100000 in
theorem internal_FormatUint (u : Nat) (hu64 : u < 18446744073709551616) (w : World) (htab : Lib.TabIs Tryz.prog w "internal/strconv.uint64pow10" .u64 Lib.pow10Tab) :
    Calls Tryz.prog 219 #[.int .u64 u, .int .i64 10] w fun e w' => e = .returned (.string ⟨(Lib.decDigits u).toArray⟩) ∧ ∃ k os, w' = grow (w.drewN k) os := by
  by_cases hs : u < 100
  · have hwr : IntKind.i64.wrap (u : Int) = (u : Int) := by rw [IntKind.wrap_i64]; omega
    go_enter Tryz.func219, Tryz.ntmps219
    go_wp2_with (go_at_call 237; refine (Tryz.internal_strconv_small u hs _).mono ?_; rintro e w' ⟨rfl, rfl⟩)
    go_ret
    exact ⟨rfl, 0, #[], by simp [World.drewN_zero]⟩
  · have hu1 : 1 ≤ u := by omega
    have hnd20 : Lib.nDigits u ≤ 20 := by have := Lib.numDigits_eq u hu1 hu64; split at this <;> omega
    have hal : Tryz.prog.arrayLen 256 = 24 := by kernel_rfl
    have hsl1 : ∀ W, (Instr.sliceAt 256 (.pointer (some ⟨w.heap.size, 0, none⟩)) none (some (.int .i64 (Lib.nDigits u : Int))) none).run Tryz.prog W = .ok (.slice (some ⟨w.heap.size, 0, none⟩) (Lib.nDigits u) 24) W := fun W => by
      rw [run_sliceAt_array_h W 256 ⟨w.heap.size, 0, none⟩ (by kernel_rfl) .i64 (Lib.nDigits u : Int) (by omega) (by rw [hal]; omega)]
      rw [hal]; go_simp
    have hH0 := Lib.holds_zero0 w 256 (Lib.nDigits u) (by omega)
    have hfmt := Tryz.internal_strconv_formatBase10 w.heap.size 0 24 u (Array.replicate (Lib.nDigits u) 0) (w.alloc (.cells Lib.zeros24 256)) hH0 (by rw [Array.size_replicate]; exact Lib.lt_pow_nDigits u) hu64 (by rw [Array.size_replicate]; omega)
    rw [Array.size_replicate] at hfmt
    have HH0 := Lib.hid hH0
    clear hH0 hal
    go_enter Tryz.func219, Tryz.ntmps219
    go_wp2_with (first
      | (go_at_call 238; refine (Tryz.internal_strconv_numDigits u hu1 hu64 _ (Lib.tabIs_alloc htab _)).mono ?_; rintro e w' ⟨rfl, rfl⟩))
    go_at_call 239
    refine hfmt.mono ?_
    rintro e w' ⟨rfl, k, v', dk, rfl, hF⟩
    have hcv : (convert 139 9 (.slice (some ⟨w.heap.size, 0, none⟩) (Lib.nDigits u) 24)).run Tryz.prog ((putRow (fun (b : UInt8) => Value.int .u8 (b.toNat : Int)) (w.alloc (.cells Lib.zeros24 256)) w.heap.size 0 dk).drewN k) = .ok (.string ⟨(Lib.decDigits u).toArray⟩) ((putRow (fun (b : UInt8) => Value.int .u8 (b.toNat : Int)) (w.alloc (.cells Lib.zeros24 256)) w.heap.size 0 dk).drewN k) := by
      have h := run_convert_bytes_back (P := Tryz.prog) ((putRow (fun (b : UInt8) => Value.int .u8 (b.toNat : Int)) (w.alloc (.cells Lib.zeros24 256)) w.heap.size 0 dk).drewN k) 139 9 5 ⟨w.heap.size, 0, none⟩ 24 (Lib.decDigits u) (by kernel_rfl) (by kernel_rfl) (by kernel_rfl) (fun j hj => by
        rw [Lib.row_is_numeral hF j hj, Lib.add_plain, World.cell?_drewN]
        exact cell?_putRow (fun (b : UInt8) => Value.int .u8 (b.toNat : Int)) _ w.heap.size 0 _ dk HH0.out (by rw [hF.size, Array.size_replicate]) j (by rw [hF.size]; rw [Lib.decDigits_length] at hj; exact hj))
      rw [Lib.decDigits_length] at h
      exact h
    go_wp2
    go_ret
    obtain ⟨os, eo⟩ := fin_zero w (.cells Lib.zeros24 256) dk k
    exact ⟨rfl, k, os, eo⟩
set_option maxRecDepth 100000 in
theorem strconv_FormatUint (u : Nat) (hu64 : u < 18446744073709551616) (w : World) (htab : Lib.TabIs Tryz.prog w "internal/strconv.uint64pow10" .u64 Lib.pow10Tab) :
    Calls Tryz.prog 204 #[.int .u64 u, .int .i64 10] w fun e w' => e = .returned (.string ⟨(Lib.decDigits u).toArray⟩) ∧ ∃ k os, w' = grow (w.drewN k) os := by
  go_enter Tryz.func204, Tryz.ntmps204
  go_wp2_with (go_at_call 219; refine (internal_FormatUint u hu64 _ htab).mono ?_; rintro e w' ⟨rfl, k, os, rfl⟩)
  go_ret
  exact ⟨rfl, k, os, rfl⟩
end Go.Proofs.YtnlabeglboomlaaGreatDoor.T
namespace Go.Proofs.YtnlabeglboomlaaGreatDoor.T
open Go.RowKit Go.Shelf
attribute [local go_sem] Oper.semAt_some
theorem isBuilderF_kept {T e : TypeId} {B b : Nat} {bs : List Value} {w w' : World} {row : Option Nat} (h : Lib.IsBuilderF T e B b bs w) (hg : w.grownBy w' row)
    (hr : ∀ r, row = some r → ∃ o : Obj, w.heap[r]? = some o ∧ o.isCells = false) : Lib.IsBuilderF T e B b bs w' := by
  have one : ∀ p, Lib.BuilderAtF T e B b p bs w → Lib.BuilderAtF T e B b p bs w' := by
    rintro p ⟨hB, v, hb, hown, hne⟩
    refine ⟨hB, v, ?_, hown.kept hg ?_, hne⟩
    · rw [hg.block b (Array.getElem?_eq_some_iff.1 hb).1 (fun e => by
        obtain ⟨o, ho, hc⟩ := hr b e.symm
        rw [hb] at ho; cases ho; cases hc)]
      exact hb
    · cases hv : v.ownBlock with
      | none => exact .inl rfl
      | some g =>
        refine .inr (fun e => ?_)
        obtain ⟨c, fz, hc⟩ := Lib.ownsRowF_kind hown g hv
        obtain ⟨o, ho, hn⟩ := hr g e.symm
        rw [hc] at ho; cases ho; cases hn
  exact h.elim (fun x => .inl (one _ x)) (fun x => .inr (one _ x))
theorem isBuilderF_own {β : Type} (T e : TypeId) (B b : Nat) (f : β → List Value) : Own (fun s W => Lib.IsBuilderF T e B b (f s) W) :=
  fun _ _ _ _ hs hg hr => isBuilderF_kept hs hg hr
def piece (len : Nat) (x : Nat × W9) : List UInt8 := (if x.1 + 1 < len then List.replicate (9 - Lib.nDigits x.2.val) 48 else []) ++ Lib.decDigits x.2.val
def txt (len : Nat) (pre : List (Nat × W9)) : List UInt8 := pre.flatMap (piece len)
theorem txt_snoc (len : Nat) (pre : List (Nat × W9)) (x : Nat × W9) : txt len (pre ++ [x]) = txt len pre ++ piece len x := by simp [txt]
def text (zs : List W9) : List UInt8 := if zs = [] then [48] else txt zs.length (upto (bk zs zs.length) zs.length)
theorem nDigits_le (k : Nat) : ∀ u, u < 10 ^ (k + 1) → Lib.nDigits u ≤ k + 1 := by
  induction k with
  | zero => intro u h; rw [Lib.nDigits_small (by simpa using h)]; omega
  | succ k ih =>
    intro u h
    by_cases h1 : u < 10
    · rw [Lib.nDigits_small h1]; omega
    · rw [Lib.nDigits_big h1]
      have := ih (u / 10) (by rw [Nat.pow_succ] at h; omega)
      omega
theorem nDigits_nine (x : W9) : Lib.nDigits x.val ≤ 9 := nDigits_le 8 x.val x.isLt
theorem piece_len (len : Nat) (x : Nat × W9) : (piece len x).length ≤ 9 := by
  have := nDigits_nine x.2
  unfold piece
  split <;> simp [Lib.decDigits_length] <;> omega
theorem txt_len (len : Nat) (pre : List (Nat × W9)) : (txt len pre).length ≤ 9 * pre.length := by
  induction pre with
  | nil => simp [txt]
  | cons x l ih => have := piece_len len x; simp only [txt, List.flatMap_cons, List.length_append, List.length_cons] at ih ⊢; omega
theorem WriteString_k (B b : Nat) (bs : List Value) (s : ByteArray) (w : World) (h : Lib.IsBuilderF 224 5 B b bs w) (hlen : bs.length + s.size ≤ 140737488355328) (hBw : B ≤ w.heap.size) :
    Calls Tryz.prog 205 #[.pointer (some ⟨b, 0, none⟩), .string s] w fun e w' => e = .returned (.tuple #[.int .i64 s.size, .nilIface]) ∧ (Lib.BuilderAtF 224 5 B b (.pointer (some ⟨b, 0, none⟩)) (bs ++ Lib.strCells s) w' ∧ Below B w w' ∧ Lib.OthersKept 5 (some b) w w') :=
  Any.Builder_WriteString_k (ρ := Tryz.lays105_ren) { Tryz.lays105 with } Tryz.Builder_Extra_105 B b bs s w h hlen hBw
theorem strCells_list (l : List UInt8) : Lib.strCells ⟨l.toArray⟩ = Lib.byteCells l := by simp [Lib.strCells, Lib.byteCells]
theorem repeat_zero (n : Nat) : Lib.repeatL [48] n = List.replicate n (48 : UInt8) := by
  induction n with
  | zero => rfl
  | succ n ih => simp [Lib.repeatL, List.replicate_succ] at ih ⊢; try exact ih
theorem isBuilderF_below {T e : TypeId} {B b : Nat} {bs : List Value} {w w' : World} (h : Lib.IsBuilderF T e B b bs w) (hB : Below w.heap.size w w') : Lib.IsBuilderF T e B b bs w' :=
  isBuilderF_kept (row := none) h ⟨hB.os, hB.tape, hB.output, hB.size, fun k hk _ => hB.block k hk⟩ (fun r e => by cases e)
theorem heap_own {β : Type} (b : Nat) (c : Array Value) (t : TypeId) (fz : Nat × Nat) : Own (fun (_ : β) W => W.heap[b]? = some (.cells c t fz)) := fun s X Y row hs hg hr => by
  show Y.heap[b]? = _
  rw [hg.block b (Array.getElem?_eq_some_iff.1 hs).1 (fun e => by
    obtain ⟨o, ho, hc⟩ := hr b e.symm
    rw [show X.heap[b]? = _ from hs] at ho; cases ho; cases hc)]
  exact hs
def Step (n₀ b : Nat) (W W' : World) : Prop := KeepsOthers W W' ∧ Below n₀ W W' ∧ ∀ k c fz, k ≠ b → W.heap[k]? = some (.cells c 184 fz) → W'.heap[k]? = some (.cells c 184 fz)
theorem Step.trans {n₀ b : Nat} {A B C : World} (h : Step n₀ b A B) (k : Step n₀ b B C) : Step n₀ b A C :=
  ⟨h.1.trans k.1, h.2.1.trans k.2.1, fun i c fz hi x => k.2.2 i c fz hi (h.2.2 i c fz hi x)⟩
theorem Step.of_below {n₀ b : Nat} {w w' : World} (hn : n₀ ≤ w.heap.size) (h : Below w.heap.size w w') : Step n₀ b w w' :=
  ⟨⟨h.size, fun k o ho _ => by rw [h.block k (Array.getElem?_eq_some_iff.1 ho).1]; exact ho⟩, h.mono hn, fun k c fz _ x => by rw [h.block k (Array.getElem?_eq_some_iff.1 x).1]; exact x⟩
theorem Step.of_written {n₀ b : Nat} {w w' : World} (h : Below n₀ w w') (ho : Lib.OthersKept 5 (some b) w w') (hc : ∃ c T fz, w.heap[b]? = some (.cells c T fz)) : Step n₀ b w w' := by
  refine ⟨⟨h.size, fun k o hk hn => ?_⟩, h, fun k c fz hk x => ho k _ x (fun e => hk (by cases e; rfl)) (fun c' fz' e => by cases e)⟩
  refine ho k o hk (fun e => ?_) (fun c fz e => by subst e; cases hn)
  cases e
  obtain ⟨c, T, fz, hb⟩ := hc
  rw [hb] at hk; cases hk; cases hn
theorem isBuilderF_cells {T e : TypeId} {B b : Nat} {bs : List Value} {w : World} (h : Lib.IsBuilderF T e B b bs w) : ∃ c T fz, w.heap[b]? = some (.cells c T fz) := by
  rcases h with ⟨_, v, hb, _⟩ | ⟨_, v, hb, _⟩ <;> exact ⟨_, _, _, hb⟩
theorem formatUint_b (u : Nat) (hu64 : u < 18446744073709551616) (w : World) (htab : Lib.TabIs Tryz.prog w "internal/strconv.uint64pow10" .u64 Lib.pow10Tab) :
    Calls Tryz.prog 204 #[.int .u64 u, .int .i64 10] w fun e w' => e = .returned (.string ⟨(Lib.decDigits u).toArray⟩) ∧ Below w.heap.size w w' :=
  (strconv_FormatUint u hu64 w htab).mono fun e w' ⟨he, k, os, hw⟩ => ⟨he, hw ▸ Lib.below_grow _ _ (Nat.le_refl _) _ _⟩
set_option maxRecDepth 100000 in
set_option maxHeartbeats 4000000 in
theorem text_calls (a : Option Addr) (cap : Nat) (zs : List W9) (hlen : zs.length ≤ 4294967296) (w : World) (hI : zs ≠ [] → Ints w.heap.size w (.slice a zs.length cap) zs) (htab : Lib.TabIs Tryz.prog w "internal/strconv.uint64pow10" .u64 Lib.pow10Tab) :
    Calls Tryz.prog 183 #[.slice a zs.length cap] w fun e w' => e = .returned (.string ⟨(text zs).toArray⟩) ∧ Below w.heap.size w w' := by
  refine (callsIn_wide (n := 3)).1 ?_
  refine callsIn_of_wp_marks Tryz.func183 rfl trivial ?_ rfl
  simp only [Tryz.ntmps183, List.size_toArray, List.length_cons, List.length_nil, Nat.reduceAdd, Nat.reduceSub, Array.replicate_succ, Array.replicate_zero, List.push_toArray, List.append_toArray, List.nil_append, List.cons_append]
  by_cases h0 : zs = []
  · subst h0
    gi_wp2
    exact ⟨_, results_tmp rfl _ _ _, by simp [text], (Below.refl _ w).alloc (Nat.le_refl _) _⟩
  · have hp : zs.length ≠ 0 := by simpa using h0
    gi_wp2_with (refine ⟨trivial, ?_⟩; gi_at_call 203; refine (back_in _ _ trivial rfl _ _ _ _).mono ?_; rintro e w' ⟨rfl, rfl⟩)
    have hB0 : Below w.heap.size w (((w.alloc (.cells #[.slice a zs.length cap] 184)).alloc (.cells #[.pointer none, .slice none 0 0] 224)).alloc (.cells #[.slice a zs.length cap] 184)) :=
      (((Below.refl _ w).alloc (Nat.le_refl _) _).alloc (by simp) _).alloc (by simp; omega) _
    have hx0 : (((w.alloc (.cells #[.slice a zs.length cap] 184)).alloc (.cells #[.pointer none, .slice none 0 0] 224)).alloc (.cells #[.slice a zs.length cap] 184)).heap[w.heap.size]? = some (.cells #[.slice a zs.length cap] 184 (0, 0)) := by
      exact ((((Below.refl (w.heap.size + 1) _).alloc (by simp) _).alloc (by simp) _).block w.heap.size (by omega)).trans (World.alloc_heap_new w _)
    have hx1 : (((w.alloc (.cells #[.slice a zs.length cap] 184)).alloc (.cells #[.pointer none, .slice none 0 0] 224)).alloc (.cells #[.slice a zs.length cap] 184)).heap[w.heap.size + 1]? = some (.cells #[.pointer none, .slice none 0 0] 224 (0, 0)) := by
      have h2 := World.alloc_heap_new (w.alloc (.cells #[.slice a zs.length cap] 184)) (.cells #[.pointer none, .slice none 0 0] 224)
      rw [World.size_alloc] at h2
      exact ((((Below.refl (w.heap.size + 2) _).alloc (by simp) _).block (w.heap.size + 1) (by omega))).trans h2
    have hx2 : (((w.alloc (.cells #[.slice a zs.length cap] 184)).alloc (.cells #[.pointer none, .slice none 0 0] 224)).alloc (.cells #[.slice a zs.length cap] 184)).heap[w.heap.size + 1 + 1]? = some (.cells #[.slice a zs.length cap] 184 (0, 0)) := by
      have h2 := World.alloc_heap_new ((w.alloc (.cells #[.slice a zs.length cap] 184)).alloc (.cells #[.pointer none, .slice none 0 0] 224)) (.cells #[.slice a zs.length cap] 184)
      rw [World.size_alloc, World.size_alloc] at h2
      exact h2
    refine wpIn_rangeFunc_ownG rfl (by omega) (gf := 218) (lb := #[.pointer (some ⟨w.heap.size + 1 + 1, 0, none⟩)]) rfl trivial (enters_of Tryz.func218 (by kernel_rfl) rfl)
      (back_stops Fence.wide _ trivial rfl (by omega) (w.heap.size + 1 + 1) w.heap.size (.slice a zs.length cap) zs (by omega) _ (by simp) (by simp; omega) (0, 0) hx2 ((hI h0).below hB0))
      Kq.trans (Kq.turn (by simp; omega) (by simp)) (Below.refl _ _) (fun _ => rfl)
      (fun pre W => (Lib.IsBuilderF 224 5 (w.heap.size + 1) (w.heap.size + 1) (Lib.byteCells (txt zs.length pre)) W ∧ W.heap[w.heap.size]? = some (.cells #[.slice a zs.length cap] 184 (0, 0))) ∧ Below w.heap.size w W)
      (fun _ _ _ => False)
      (OwnFrom.and (OwnFrom.and (Own.from (isBuilderF_own _ _ _ _ _) _) (Own.from (heap_own _ _ _ _) _)) (ownFrom_below (Nat.le_refl _) (by simp; omega)))
      (fun _ _ _ _ _ hs _ _ => hs)
      ⟨⟨.inl ⟨Nat.le_refl _, _, hx1, World.ownsRowF_nil _ _ _ _, by simp [Value.ownBlock]⟩, hx0⟩, hB0⟩
      (fun x => { tmps := #[.slice a zs.length cap, .pointer (some ⟨w.heap.size, 0, none⟩), .string ⟨#[]⟩, .pointer (some ⟨w.heap.size + 1, 0, none⟩), .int .i64 (x.1 : Int), .int .u32 (x.2.val : Int), undef, .slice a zs.length cap, .int .i64 (zs.length : Int), .bool false, .slice a zs.length cap, .func (.func 218) #[] #[.pointer (some ⟨w.heap.size + 1 + 1, 0, none⟩)], .int .i64 (x.1 : Int), .int .u32 (x.2.val : Int), undef, undef, undef, undef, undef, undef, undef, undef, undef, undef, undef, undef, undef, undef, undef, undef], defers := [] }) ?assign ?body ?done ?stop
    case assign =>
      intro l x W K hK
      gi_wp2
      exact hK
    case stop =>
      rintro D c pre W _ _ h _
      exact h.elim
    case body =>
      rintro l pre x W ⟨⟨hb, hbox⟩, hB⟩ hlt
      have hx := x.2.isLt
      have hboxc := cell_heap hbox
      have hnd := nDigits_nine x.2
      have hnp := Lib.nDigits_pos x.2.val
      have htab' : Lib.TabIs Tryz.prog W "internal/strconv.uint64pow10" .u64 Lib.pow10Tab := Lib.tabBelow_of_tabIs htab W hB
      have hu : IntKind.u64.wrap (x.2.val : Int) = (x.2.val : Int) := by rw [IntKind.wrap_u64]; omega
      have hw1 : wrap64 ((zs.length : Int) - 1) = (zs.length : Int) - 1 := by unfold wrap64; omega
      have hw9 : wrap64 (9 - (Lib.nDigits x.2.val : Int)) = ((9 - Lib.nDigits x.2.val : Nat) : Int) := by unfold wrap64; omega
      have htl := txt_len zs.length pre
      have hs0 : w.heap.size ≤ W.heap.size := hB.size
      obtain ⟨cb, Tb, fb, hcb⟩ := isBuilderF_cells hb
      have hsb := (Array.getElem?_eq_some_iff.1 hcb).1
      clear hcb
      gi_wp2_with (refine ⟨trivial, ?_⟩; gi_at_call 204; refine (CallsIn.inRound l (callsIn_wide.2 (formatUint_b x.2.val (by omega) _ htab'))).mono ?_; rintro e W1 ⟨rfl, hB1⟩; have hb1 := isBuilderF_below hb hB1; have hS1 := Step.of_below (b := w.heap.size + 1) hs0 hB1; have hbox1 := hS1.2.2 _ _ _ (by omega) hbox; have hboxc1 := cell_heap hbox1)
      ·
        rename_i hlt1
        have hlt2 : x.1 + 1 < zs.length := by omega
        rw [Lib.decDigits_length, hw9]
        refine ⟨trivial, ?_⟩
        refine (CallsIn.inRound l (callsIn_wide.2 (Tryz.strings_Repeat ⟨#[48]⟩ (9 - Lib.nDigits x.2.val) W1 (by omega) (by show 1 * _ ≤ _; omega)))).mono ?_
        rintro e W2 ⟨rfl, hB2⟩
        have hb2 := isBuilderF_below hb1 hB2
        have hS2 := hS1.trans (Step.of_below (Nat.le_trans hs0 hB1.size) hB2)
        gi_wp2
        refine ⟨trivial, ?_⟩
        refine (CallsIn.inRound l (callsIn_wide.2 (WriteString_k (w.heap.size + 1) (w.heap.size + 1) _ _ W2 hb2 (by rw [Lib.byteCells_length]; simp [ByteArray.size, Lib.repeatL_length]; omega) (by have := hB1.size; have := hB2.size; omega)))).mono ?_
        rintro e W3 ⟨rfl, hb3, hB3, hO3⟩
        have hS3 := hS2.trans (Step.of_written (hB3.mono (Nat.le_succ _)) hO3 (isBuilderF_cells hb2))
        gi_wp2
        refine ⟨trivial, ?_⟩
        refine (CallsIn.inRound l (callsIn_wide.2 (WriteString_k (w.heap.size + 1) (w.heap.size + 1) _ _ W3 (.inr hb3) (by rw [List.length_append, Lib.byteCells_length, Lib.strCells_length]; simp [ByteArray.size, Lib.decDigits_length, Lib.repeatL_length]; omega) (by have := hB1.size; have := hB2.size; have := hB3.size; omega)))).mono ?_
        rintro e W4 ⟨rfl, hb4, hB4, hO4⟩
        have hS4 := hS3.trans (Step.of_written (hB4.mono (Nat.le_succ _)) hO4 (isBuilderF_cells (.inr hb3)))
        gi_wp2
        refine ⟨hS4.1.from _, ⟨hS4.2.1, fun c fz hc => hS4.2.2 _ c fz (by omega) hc⟩, ⟨.inr ?_, hS4.2.2 _ _ _ (by omega) hbox⟩, hB.trans hS4.2.1⟩
        rw [txt_snoc]
        unfold piece
        rw [if_pos hlt2]
        rw [strCells_list, strCells_list, repeat_zero] at hb4
        simpa [Lib.byteCells] using hb4
      · have hlt2 : ¬ x.1 + 1 < zs.length := by rename_i hlt1; omega
        refine ⟨trivial, ?_⟩
        refine (CallsIn.inRound l (callsIn_wide.2 (WriteString_k (w.heap.size + 1) (w.heap.size + 1) _ _ W1 hb1 (by rw [Lib.byteCells_length]; simp [ByteArray.size, Lib.decDigits_length]; omega) (by have := hB1.size; omega)))).mono ?_
        rintro e W2 ⟨rfl, hb2, hB2, hO2⟩
        have hS2 := hS1.trans (Step.of_written (hB2.mono (Nat.le_succ _)) hO2 (isBuilderF_cells hb1))
        gi_wp2
        refine ⟨hS2.1.from _, ⟨hS2.2.1, fun c fz hc => hS2.2.2 _ c fz (by omega) hc⟩, ⟨.inr ?_, hS2.2.2 _ _ _ (by omega) hbox⟩, hB.trans hS2.2.1⟩
        rw [txt_snoc]
        unfold piece
        rw [if_neg hlt2]
        rw [strCells_list] at hb2
        simpa [Lib.byteCells] using hb2
    case done =>
      rintro D ys W hD rfl ⟨⟨hb, hbox⟩, hB⟩ hK
      gi_wp2
      obtain ⟨cb, Tb, fb, hcb⟩ := isBuilderF_cells hb
      have hsb := (Array.getElem?_eq_some_iff.1 hcb).1
      clear hcb
      refine ⟨trivial, ?_⟩
      refine (callsIn_wide.2 (Tryz.Builder_String_any_k (w.heap.size + 1) (w.heap.size + 1) _ W hb (by omega))).mono ?_
      rintro e W2 ⟨rfl, hb2, hB2, hO2⟩
      have hD2 : w.heap.size + 3 ≤ D := by simp at hD; omega
      have hK2 : W2.heap[D]? = some (.deferred (some [])) := hO2 D _ hK (by intro e; cases e; omega) (fun c fz e => by cases e)
      gi_wp2
      refine ⟨by simp, .inl ⟨_, _, rfl, run_takeDeferred hK2, ?_⟩⟩
      exact ⟨_, results_tmp rfl _ _ _, by simp [text, h0], (hB.trans (hB2.mono (Nat.le_succ _))).trans (belowK_b (w := w) (Nat.le_refl _) W2 D _ _ (by omega) hK2 rfl rfl)⟩
end Go.Proofs.YtnlabeglboomlaaGreatDoor.T
namespace Gb
open Go Go.RowKit Go.Proofs.YtnlabeglboomlaaGreatDoor.T
def valW (zs : List W9) : Nat := zs.foldr (fun x v => x.val + 1000000000 * v) 0
theorem valW_nil : valW [] = 0 := rfl
theorem valW_cons (x : W9) (zs : List W9) : valW (x :: zs) = x.val + 1000000000 * valW zs := rfl
theorem valW_drop (zs : List W9) (i : Nat) (hi : i < zs.length) : valW (zs.drop i) = (zs[i]?.getD 0).val + 1000000000 * valW (zs.drop (i + 1)) := by
  rw [List.drop_eq_getElem_cons hi, valW_cons, List.getElem?_eq_getElem hi]; rfl
theorem natOf_zeros (n : Nat) : natOf (List.replicate n 48) = 0 := by
  induction n with
  | zero => rfl
  | succ n ih => rw [List.replicate_succ', natOf_snoc, ih]; rfl
theorem piece_natOf (len : Nat) (x : Nat × W9) : natOf (piece len x) = x.2.val := by
  unfold piece
  split
  · rw [natOf_append, natOf_zeros, natOf_dec]; omega
  · rw [List.nil_append, natOf_dec]
theorem piece_isD (len : Nat) (x : Nat × W9) : ∀ c ∈ piece len x, isD c = true := by
  intro c hc
  unfold piece at hc
  rcases List.mem_append.1 hc with h | h
  · split at h
    · rw [List.mem_replicate] at h; rw [h.2]; decide
    · cases h
  · exact dec_isD _ c h
theorem piece_nine (len : Nat) (x : Nat × W9) (h : x.1 + 1 < len) : (piece len x).length = 9 := by
  have := nDigits_nine x.2
  unfold piece
  rw [if_pos h, List.length_append, List.length_replicate, Lib.decDigits_length]; omega
theorem txt_val (zs : List W9) : ∀ k, k ≤ zs.length → natOf (txt zs.length (upto (bk zs zs.length) k)) = valW (zs.drop (zs.length - k)) := by
  intro k
  induction k with
  | zero => intro _; rw [Nat.sub_zero, List.drop_length]; rfl
  | succ k ih =>
    intro hk
    have h1 := ih (by omega)
    have hd := valW_drop zs (zs.length - (k + 1)) (by omega)
    rw [show zs.length - (k + 1) + 1 = zs.length - k by omega] at hd
    rw [upto_succ, txt_snoc, natOf_append, h1, hd, piece_natOf]
    have hb : (bk zs zs.length k).2.val = (zs[zs.length - (k + 1)]?.getD 0).val := by unfold bk; rw [show zs.length - 1 - k = zs.length - (k + 1) by omega]
    rw [hb]
    by_cases h0 : k = 0
    · subst h0
      rw [Nat.sub_zero, List.drop_length, valW_nil]; omega
    · rw [piece_nine _ _ (by unfold bk; show zs.length - 1 - k + 1 < _; omega)]
      omega
theorem txt_isD (zs : List W9) (pre : List (Nat × W9)) : ∀ c ∈ txt zs.length pre, isD c = true := by
  intro c hc
  unfold txt at hc
  obtain ⟨x, _, hx⟩ := List.mem_flatMap.1 hc
  exact piece_isD _ _ c hx
theorem txt_head (zs : List W9) (h0 : zs ≠ []) (ht : (zs[zs.length - 1]?.getD 0).val ≠ 0) : ∀ k, (txt zs.length (upto (bk zs zs.length) (k + 1))).head? = (Lib.decDigits (zs[zs.length - 1]?.getD 0).val).head? := by
  have hp := List.length_pos_iff.2 h0
  intro k
  induction k with
  | zero =>
    rw [upto_succ, txt_snoc]
    have : piece zs.length (bk zs zs.length 0) = Lib.decDigits (zs[zs.length - 1]?.getD 0).val := by
      unfold piece bk
      rw [if_neg (by show ¬ (zs.length - 1 - 0 + 1 < zs.length); omega), List.nil_append, Nat.sub_zero]
    rw [this]; rfl
  | succ k ih =>
    rw [upto_succ, txt_snoc]
    have hne : txt zs.length (upto (bk zs zs.length) (k + 1)) ≠ [] := by
      intro h
      rw [h] at ih
      cases hd : Lib.decDigits (zs[zs.length - 1]?.getD 0).val with
      | nil => exact dec_ne _ hd
      | cons c l => rw [hd] at ih; cases ih
    rw [← ih]
    cases hd : txt zs.length (upto (bk zs zs.length) (k + 1)) with
    | nil => exact absurd hd hne
    | cons c l => rfl
theorem text_dec (zs : List W9) (ht : zs ≠ [] → (zs[zs.length - 1]?.getD 0).val ≠ 0) : text zs = Lib.decDigits (valW zs) := by
  unfold text
  by_cases h0 : zs = []
  · rw [if_pos h0, h0, valW_nil]
    have h := dec_natOf (l := [48]) (by decide)
    rw [show natOf [48] = 0 from rfl] at h
    exact h.symm
  · rw [if_neg h0]
    have hp := List.length_pos_iff.2 h0
    have hv := txt_val zs zs.length (Nat.le_refl _)
    rw [Nat.sub_self, List.drop_zero] at hv
    rw [← hv]
    refine (dec_natOf ?_).symm
    have hh := txt_head zs h0 (ht h0) (zs.length - 1)
    rw [show zs.length - 1 + 1 = zs.length by omega] at hh
    refine isNat_iff.2 ⟨?_, txt_isD zs _, .inr ?_⟩
    · intro h
      rw [h] at hh
      cases hd : Lib.decDigits (zs[zs.length - 1]?.getD 0).val with
      | nil => exact dec_ne _ hd
      | cons c l => rw [hd] at hh; cases hh
    · rw [hh]
      intro h48
      rcases dec_head (zs[zs.length - 1]?.getD 0).val with h1 | h1
      · cases hd : Lib.decDigits (zs[zs.length - 1]?.getD 0).val with
        | nil => exact dec_ne _ hd
        | cons c l =>
          rw [hd] at h1 h48
          have hl : l = [] := List.length_eq_zero_iff.1 (by simpa using h1)
          subst hl
          injection h48 with h48
          subst h48
          have := natOf_dec (zs[zs.length - 1]?.getD 0).val
          rw [hd] at this
          exact ht h0 (by rw [← this]; rfl)
      · exact h1 h48
theorem parseM_digits (l : List UInt8) : ∀ (acc : Nat), (∀ c ∈ l, isD c = true) → acc * 10 ^ l.length + natOf l < 4294967296 → Lib.parseUintM 4294967295 acc l = .ok (acc * 10 ^ l.length + natOf l) := by
  induction l with
  | nil => intro acc _ _; simp [Lib.parseUintM, natOf]
  | cons c r ih =>
    intro acc hd h
    have hc := isD_iff.1 (hd c (List.mem_cons_self ..))
    have e : natOf (c :: r) = (c.toNat - 48) * 10 ^ r.length + natOf r := by
      rw [show c :: r = [c] ++ r from rfl, natOf_append]
      congr 2
      simp [natOf]
    have hp : 0 < 10 ^ r.length := Nat.pow_pos (by omega)
    have e2 : acc * 10 ^ (r.length + 1) + ((c.toNat - 48) * 10 ^ r.length + natOf r) = (acc * 10 + (c.toNat - 48)) * 10 ^ r.length + natOf r := by
      rw [Nat.pow_succ]; grind
    rw [e, List.length_cons, e2] at h ⊢
    have hb : acc * 10 + (c.toNat - 48) < 4294967296 := by
      have : (acc * 10 + (c.toNat - 48)) * 1 ≤ (acc * 10 + (c.toNat - 48)) * 10 ^ r.length := Nat.mul_le_mul_left _ hp
      omega
    rw [Lib.parseUintM, if_pos ⟨hc.1, hc.2⟩, if_neg (by omega), if_neg (by omega)]
    exact ih _ (fun x hx => hd x (List.mem_cons_of_mem _ hx)) h
theorem parse_chunk (l : List UInt8) (h0 : l ≠ []) (hd : ∀ c ∈ l, isD c = true) (h9 : l.length ≤ 9) : Lib.parseUintB 32 l = .ok (natOf l) := by
  have h1 := natOf_lt l hd
  have h2 : 10 ^ l.length ≤ 10 ^ 9 := Nat.pow_le_pow_right (by omega) h9
  have := parseM_digits l 0 hd (by omega)
  rw [Nat.zero_mul, Nat.zero_add] at this
  rw [Lib.parseUintB, if_neg h0]
  exact this
end Gb
namespace Go.Sx
open Go Go.RowKit Go.Shelf Go.Proofs
theorem meets_val {P : Program} {G : World → Prop} {f : FuncId} (args : List Value) {r : PV} (u : Value) (hent : Enters P f) (hrep : ∀ B w, RepP B w r u) (h : ∀ w, G w → Calls P f ⟨args⟩ w fun e w' => e = .returned u ∧ Below w.heap.size w w') : Meets P G f (args.map .val) r := by
  refine ⟨hent, fun B vs w hB hr hG => ?_⟩
  have : vs = args := by
    clear h
    induction args generalizing vs with
    | nil => simpa only [List.map_nil, RepL] using hr
    | cons x l ih =>
      simp only [List.map_cons, RepL, RepP] at hr
      obtain ⟨y, ys, rfl, rfl, h2⟩ := hr
      rw [ih ys h2]
  subst this
  refine (h w hG).mono ?_
  rintro e w' ⟨rfl, hb⟩
  exact ⟨u, rfl, hrep _ _, hb⟩
end Go.Sx
namespace Go.Proofs.YtnlabeglboomlaaGreatDoor.S
open Go Go.Sx Go.RowKit Gb Go.Proofs.YtnlabeglboomlaaGreatDoor.T Go.Shelf
def Gd (w : World) : Prop := Lib.TabIs Tryz.prog w "internal/strconv.uint64pow10" .u64 Lib.pow10Tab
theorem gd (w w' : World) (h : Gd w) (hB : Below w.heap.size w w') : Gd w' := Lib.tabBelow_of_tabIs h w' hB
theorem parse_n (l : List UInt8) (h0 : l ≠ []) (hd : ∀ c ∈ l, isD c = true) (h9 : l.length ≤ 9) : Meets Tryz.prog Gd 201 [strP l, .val (.int .i64 10), .val (.int .i64 32)] (.tup [.val (.int .u64 (natOf l : Nat)), .val .nilIface]) := by
  refine meets_val [.string ⟨l.toArray⟩, .int .i64 10, .int .i64 32] (.tuple ⟨[.int .u64 (natOf l : Nat), .nilIface]⟩) (enters_of Tryz.func201 (by kernel_rfl) rfl) ?_ ?_
  · intro B w
    simp [RepP, RepL]
  · intro w _
    refine (Tryz.strconv_ParseUint_10_at32_ok ⟨l.toArray⟩ (by show l.toArray.size ≤ _; simp; omega) (natOf l) (parse_chunk l h0 hd h9) w).mono ?_
    rintro e w' ⟨rfl, hw⟩
    refine ⟨rfl, ?_⟩
    rcases hw with rfl | rfl
    · exact Below.refl _ _
    · exact Lib.bytesWorld_below _ _ _
def wd (v : Int) : W9 := ⟨v.toNat % 1000000000, Nat.mod_lt _ (by decide)⟩
theorem wd_val {v : Int} (h : 0 ≤ v ∧ v < 1000000000) : ((wd v).val : Int) = v := by unfold wd; show ((v.toNat % 1000000000 : Nat) : Int) = v; omega
theorem valW_wd (l : List Int) (h : Dig l) : (valW (l.map wd) : Int) = val l := by
  induction l with
  | nil => rfl
  | cons x l ih =>
    rw [List.map_cons, valW_cons, val_cons, ← ih h.tail, Int.natCast_add, wd_val h.head]
    simp
theorem text_n (n : Nat) (hn : Lw n < 1000000) : Meets Tryz.prog Gd 183 [nP n] (strP (Lib.decDigits n)) := by
  refine ⟨enters_of Tryz.func183 (by kernel_rfl) rfl, ?_⟩
  intro B vs w hB hr hG
  rw [nP_c] at hr
  simp only [RepL, RepP] at hr
  obtain ⟨v, ys, rfl, ⟨a, c, rfl, hnc, hc0, hcs⟩, rfl⟩ := hr
  have hN := wl_norm n
  have hlen : ((wl n).map wd).length = (wl n).length := by simp
  have hI : (wl n).map wd ≠ [] → Ints w.heap.size w (.slice a ((wl n).map wd).length c) ((wl n).map wd) := by
    intro hne
    rcases hcs with h | ⟨b, o, rfl, hb, hC⟩
    · exact absurd (by simpa using h) (by simpa using hne)
    · refine .inr ⟨_, c, rfl, hB b hb, fun j hj => ?_⟩
      rw [List.length_map] at hj
      obtain ⟨us, h1, h2⟩ := repC_cells hC
      obtain ⟨x, h3, h4⟩ := h1.get j (wv ((wl n).getD j 0)) (by rw [List.getElem?_map, List.getElem?_eq_getElem hj, List.getD_eq_getElem?_getD, List.getElem?_eq_getElem hj]; rfl)
      have h5 := h2 j x h3
      rw [wv_c] at h4
      simp only [RepP] at h4
      rw [h5, h4, List.getElem?_map, List.getElem?_eq_getElem hj]
      have hv := hN.1 _ (List.getElem_mem hj)
      rw [List.getD_eq_getElem?_getD, List.getElem?_eq_getElem hj]
      show some (Value.int .u32 (wl n)[j]) = some (.int .u32 ((wd (wl n)[j]).val : Int))
      rw [wd_val hv]
  have ht := text_calls a c ((wl n).map wd) (by rw [hlen]; show Lw n ≤ _; omega) w hI hG
  rw [hlen, text_dec _ (fun hne => by
    have hl := List.length_pos_iff.2 hne
    rw [hlen] at hl
    have h1 := hN.2 (List.length_pos_iff.1 hl)
    have h2 := hN.1.getD ((wl n).length - 1)
    rw [hlen, List.getElem?_map, List.getElem?_eq_getElem (by omega)]
    rw [List.getD_eq_getElem?_getD, List.getElem?_eq_getElem (by omega)] at h1 h2
    show (wd (wl n)[(wl n).length - 1]).val ≠ 0
    have h3 := wd_val (v := (wl n)[(wl n).length - 1]) h2
    have h1' : (wl n)[(wl n).length - 1] ≠ 0 := h1
    omega)] at ht
  have hval : valW ((wl n).map wd) = n := by
    have := valW_wd (wl n) hN.1
    rw [wl_val] at this
    exact Int.ofNat_inj.1 this
  rw [hval] at ht
  refine ht.mono ?_
  rintro e w' ⟨rfl, hb⟩
  exact ⟨_, rfl, by rw [strP_c]; simp only [RepP], hb⟩
end Go.Proofs.YtnlabeglboomlaaGreatDoor.S
namespace Go.Proofs.YtnlabeglboomlaaGreatDoor.S
open Go Go.Sx Go.RowKit Gb
set_option maxRecDepth 100000 in
set_option maxHeartbeats 20000000 in
theorem nvalid_n (l : List UInt8) (hl : l.length < 100000000) : Meets Tryz.prog Gd 118 [strP l] (.val (.bool (isNat l))) := by
  refine meets_of_vc (Y := {}) (N := 32) (rs := [.tmp 2]) mix tk gd Tryz.func118 rfl (by kernel_rfl) rfl rfl (by simp) (by kernel_rfl) ?_
  simp (maxSteps := 10000000) only [↓sx, sx, ↓ty, ↓reduceIte, Nat.reduceEqDiff, Nat.reduceLT, strP_c]
  refine vcIf_b (fun h0 => ?_) (fun h0 => vcIf_dec (fun h1 => ⟨by omega, vcIf_b (fun h2 => ?_) (fun h2 => ?_)⟩) (fun h1 => ?_))
  · have h0 : l = [] := by simpa using h0
    subst h0
    rfl
  · have : isNat l = false := by
      rw [Bool.eq_false_iff]; intro hN
      obtain ⟨_, _, h3⟩ := isNat_iff.1 hN
      rcases h3 with h3 | h3
      · omega
      · apply h3
        cases l with
        | nil => simp at h1
        | cons c l =>
          simp at h2
          have : c = 48 := UInt8.toNat_inj.1 (by rw [show (48 : UInt8).toNat = 48 from rfl]; omega)
          rw [this]; rfl
    rw [this]
  all_goals
    have hz : l ≠ [] ∧ (l.length = 1 ∨ l.head? ≠ some 48) := by
      have hne : l ≠ [] := by intro h; rw [h] at h0; simp at h0
      refine ⟨hne, ?_⟩
      cases l with
      | nil => exact absurd rfl hne
      | cons c l =>
        first
          | (left; simp only [List.length_cons] at h1 ⊢; omega)
          | (right
             simp only [List.head?_cons, ne_eq, Option.some.injEq]
             rintro rfl
             simp at h2)
    clear h0 h1
    refine loopK_of (fun i : Nat => [(0, .p (.val (.string ⟨l.toArray⟩))), (17, .p (.val (.int .i64 (l.length : Nat)))), (18, .p (.val (.int .i64 (i : Nat))))]) (fun _ => []) (fun _ => []) (fun i => i ≤ l.length ∧ ∀ c ∈ l.take i, isD c = true) (fun i => l.length - i) 0 ⟨Nat.zero_le _, by simp⟩ ?_ ?_
    · simp (maxSteps := 10000000) only [isE_nil, is_cons, bo_p, all_nil', ↓sx, sx, ↓reduceIte, Nat.reduceEqDiff]
      try rfl
    · rintro i ⟨h1, h2⟩
      simp (maxSteps := 10000000) only [↓sx, sx, ↓ty, ↓reduceIte, Nat.reduceEqDiff, Nat.reduceLT, getD_get]
      refine vcIf_dec (fun hi => ?_) (fun hi => ?_)
      · have hmem : l.getD i 0 ∈ l := by
          rw [List.getD_eq_getElem?_getD, List.getElem?_eq_getElem (by omega)]; exact List.getElem_mem _
        refine ⟨by omega, vcIf_dec (fun hc => ?_) (fun hc => ?_)⟩
        · have : isNat l = false := by
            rw [Bool.eq_false_iff]; intro hN
            have := isD_iff.1 ((isNat_iff.1 hN).2.1 _ hmem)
            omega
          rw [this]
        · refine ⟨by omega, vcIf_dec (fun hc2 => ?_) (fun hc2 => ?_)⟩
          · have : isNat l = false := by
              rw [Bool.eq_false_iff]; intro hN
              have := isD_iff.1 ((isNat_iff.1 hN).2.1 _ hmem)
              omega
            rw [this]
          · refine NextK.mk (i + 1) (by omega) ⟨by omega, ?_⟩ ?_
            · intro c hc3
              rw [take_succ_getD _ _ (by omega)] at hc3
              rcases List.mem_append.1 hc3 with hc3 | hc3
              · exact h2 c hc3
              · obtain rfl := List.mem_singleton.1 hc3
                rw [isD_iff]; omega
            · simp (maxSteps := 10000000) only [isE_nil, is_cons, bo_p, all_nil', ↓sx, sx, ↓reduceIte, Nat.reduceEqDiff]
              rw [i64_id (by omega) (by omega)]
              rfl
      · obtain rfl : i = l.length := by omega
        rw [List.take_length] at h2
        have : isNat l = true := isNat_iff.2 ⟨hz.1, h2, hz.2⟩
        rw [this]
theorem chunk_eq (l : List UInt8) (k : Nat) (hk : k ≤ l.length) : natOf (l.take k) = natOf ((l.take k).drop (k - 9)) + 1000000000 * natOf (l.take (k - 9)) := by
  have h1 : l.take k = (l.take k).take (k - 9) ++ (l.take k).drop (k - 9) := (List.take_append_drop _ _).symm
  have h2 : (l.take k).take (k - 9) = l.take (k - 9) := by rw [List.take_take]; congr 1; omega
  rw [h2] at h1
  conv => lhs; rw [h1, natOf_append]
  have hlen : ((l.take k).drop (k - 9)).length = k - (k - 9) := by rw [List.length_drop, List.length_take]; omega
  rw [hlen]
  by_cases h9 : 9 ≤ k
  · rw [show k - (k - 9) = 9 by omega]; omega
  · rw [show k - 9 = 0 by omega, List.take_zero, natOf_nil]; omega
set_option maxRecDepth 100000 in
set_option maxHeartbeats 20000000 in
theorem nread_n (l : List UInt8) (hd : ∀ c ∈ l, isD c = true) (hl : l.length < 1000000) : Meets Tryz.prog Gd 182 [strP l] (nP (natOf l)) := by
  refine meets_of_vc (Y := {}) (N := 31) (rs := [.tmp 2]) mix tk gd Tryz.func182 rfl (by kernel_rfl) rfl rfl (by simp) (by kernel_rfl) ?_
  simp (maxSteps := 10000000) only [↓sx, sx, ↓ty, ↓reduceIte, Nat.reduceEqDiff, strP_c]
  refine loopK_of (fun s : Nat × List Int => [(0, .p (.val (.string ⟨(l.take s.1).toArray⟩))), (3, .orow 3)]) (fun _ => []) (fun s => [(3, ⟨95, 1, s.2.length, s.2.map wv, false⟩)]) (fun s => s.1 ≤ l.length ∧ s.1 + s.2.length ≤ l.length ∧ Dig s.2 ∧ val s.2 + 1000000000 ^ s.2.length * (natOf (l.take s.1) : Nat) = (natOf l : Nat)) (fun s => s.1) (l.length, []) ⟨Nat.le_refl _, Nat.le_refl _, Dig.nil, by simp [val]⟩ ?_ ?_
  · simp (maxSteps := 10000000) only [isE_nil, is_cons, bo_p, bo_orow, any_cons', all_cons', all_nil', Bool.true_or, ↓sx, sx, ↓reduceIte, Nat.reduceEqDiff]
    simp
  · rintro ⟨k, out⟩ ⟨h1, h2, h3, h4⟩
    dsimp only at h1 h2 h3 h4 ⊢
    have hlk : (l.take k).length = k := by rw [List.length_take]; omega
    simp (maxSteps := 10000000) only [↓sx, sx, ↓ty, ↓reduceIte, Nat.reduceEqDiff, hlk]
    refine vcIf_dec (fun hk => ?_) (fun hk => ?_)
    · have hmx : (if (0 : Int) > IntKind.i64.wrap ((k : Int) - 9) then 0 else IntKind.i64.wrap ((k : Int) - 9)) = ((k - 9 : Nat) : Int) := by
        rw [i64_id (by omega) (by omega)]; split <;> omega
      rw [hmx, Int.toNat_natCast]
      have hcl : ((l.take k).drop (k - 9)).length = k - (k - 9) := by rw [List.length_drop, hlk]
      have hcd : ∀ c ∈ (l.take k).drop (k - 9), isD c = true := fun c hc => hd c (List.mem_of_mem_take (List.mem_of_mem_drop hc))
      have hcn := natOf_lt _ hcd
      have hce := chunk_eq l k h1
      have hc9 : natOf ((l.take k).drop (k - 9)) < 1000000000 := by
        have : 10 ^ ((l.take k).drop (k - 9)).length ≤ 10 ^ 9 := Nat.pow_le_pow_right (by omega) (by omega)
        omega
      refine ⟨by omega, ?_⟩
      refine CallT.to (parse_n ((l.take k).drop (k - 9)) (by intro h0; rw [h0] at hcl; simp at hcl; omega) hcd (by omega)) (by rw [List.take_of_length_le (by omega)]; rfl) ?_
      simp (maxSteps := 10000000) only [↓sx, sx, ↓ty, ↓reduceIte, Nat.reduceEqDiff, Nat.reduceAdd, Nat.reduceLeDiff, Nat.reduceLT, ne_eq, not_false_eq_true, hlk]
      refine ⟨⟨by simp only [maxLen]; omega, by omega⟩, by omega, ?_⟩
      refine NextK.mk (k - 9, out ++ [((natOf ((l.take k).drop (k - 9)) : Nat) : Int)]) (by dsimp only; omega) ⟨by dsimp only; omega, by simp; omega, h3.snoc (by omega) (by omega), ?_⟩ ?_
      · dsimp only
        rw [val_snoc, List.length_append, List.length_singleton, Int.pow_succ, ← h4, hce]
        generalize natOf ((l.take k).drop (k - 9)) = x at *
        generalize natOf (l.take (k - 9)) = y at *
        rw [Int.natCast_add, Int.natCast_mul]
        grind
      · simp (maxSteps := 10000000) only [isE_nil, is_cons, bo_p, bo_orow, any_cons', all_cons', all_nil', Bool.true_or, ↓sx, sx, ↓reduceIte, Nat.reduceEqDiff]
        have e1 : (l.take k).take (k - 9) = l.take (k - 9) := by rw [List.take_take]; congr 1; omega
        rw [u32_id (x := ((natOf ((l.take k).drop (k - 9)) : Nat) : Int)) (by omega) (by omega)]
        simp [wv_c, e1]
    · obtain rfl : k = 0 := by omega
      rw [List.take_zero, natOf_nil] at h4
      refine CallT.mk (ntrim_n gd out (by omega) h3 (natOf l) (by omega)) ?_
      simp (maxSteps := 10000000) only [↓sx, sx, ↓reduceIte]
end Go.Proofs.YtnlabeglboomlaaGreatDoor.S
namespace Go.Proofs.YtnlabeglboomlaaGreatDoor.S
open Go Go.Sx Go.RowKit Gb
theorem nvalid_d (n : Nat) (h : Lw n < 1000000) : Meets Tryz.prog Gd 118 [dP n] (.val (.bool true)) := by
  have := nvalid_n (Lib.decDigits n) (by have := dec_len n; omega)
  rwa [isNat_dec] at this
theorem nread_d (n : Nat) (h : Lw n < 100000) : Meets Tryz.prog Gd 182 [dP n] (nP n) := by
  have := nread_n (Lib.decDigits n) (dec_isD n) (by have := dec_len n; omega)
  rwa [natOf_dec] at this
set_option maxRecDepth 100000 in
theorem nboth_n (a b : Nat) (ha : Lw a < 100000) (hb : Lw b < 100000) : Meets Tryz.prog Gd 159 [dP a, dP b] (.tup [nP a, nP b, .val (.int .i64 0)]) := by
  refine meets_of_vc (Y := {}) (N := 19) (rs := [.tmp 4, .tmp 5, .tmp 6]) mix tk gd Tryz.func159 rfl (by kernel_rfl) rfl rfl (by simp) (by kernel_rfl) ?_
  simp (maxSteps := 10000000) only [↓sx, sx, ↓ty, ↓reduceIte, Nat.reduceEqDiff, dP_c]
  refine CallT.mk (nvalid_d a (by omega)) ?_
  simp (maxSteps := 10000000) only [↓sx, sx, ↓reduceIte, Nat.reduceEqDiff, Nat.reduceLT]
  refine CallT.mk (nvalid_d b (by omega)) ?_
  simp (maxSteps := 10000000) only [↓sx, sx, ↓reduceIte, Nat.reduceEqDiff, Nat.reduceLT]
  refine CallT.mk (nread_d a ha) ?_
  simp (maxSteps := 10000000) only [↓sx, sx, ↓reduceIte, Nat.reduceEqDiff, nP_c]
  refine CallT.mk (nread_d b hb) ?_
  simp (maxSteps := 10000000) only [↓sx, sx, ↓reduceIte, Nat.reduceEqDiff, nP_c]
set_option maxRecDepth 100000 in
theorem napply_n (g : FuncId) (a b r : Nat) (h : Meets Tryz.prog Gd g [nP a, nP b] (nP r)) (hr : Lw r < 1000000) : Meets Tryz.prog Gd 160 [.clo g [nP a] [], nP b] (.tup [dP r, .val (.int .i64 0)]) := by
  refine meets_of_vc (Y := {}) (N := 10) (rs := [.tmp 4, .tmp 5]) mix tk gd Tryz.func160 rfl (by kernel_rfl) rfl rfl (by simp) (by kernel_rfl) ?_
  simp (maxSteps := 10000000) only [↓sx, sx, ↓reduceIte, Nat.reduceEqDiff, dP_c, nP_c]
  refine CallT.mk h ?_
  simp (maxSteps := 10000000) only [↓sx, sx, ↓reduceIte, nP_c]
  refine CallT.mk (text_n r hr) ?_
  simp (maxSteps := 10000000) only [↓sx, sx, strP_c]
set_option maxRecDepth 100000 in
theorem nadd_n (a b : Nat) (ha : Lw a < 100000) (hb : Lw b < 100000) : Meets Tryz.prog Gd 188 [dP a, dP b] (.tup [dP (a + b), .val (.int .i64 0)]) := by
  refine meets_of_vc (Y := {}) (N := 25) (rs := [.tmp 4, .tmp 5]) mix tk gd Tryz.func188 rfl (by kernel_rfl) rfl rfl (by simp) (by kernel_rfl) ?_
  simp (maxSteps := 10000000) only [↓sx, sx, ↓reduceIte, Nat.reduceEqDiff, dP_c]
  refine CallT.mk (nboth_n a b ha hb) ?_
  simp (maxSteps := 10000000) only [↓sx, sx, ↓reduceIte, Nat.reduceEqDiff, Int.reduceBNe, nP_c]
  refine CallT.mk (napply_n _ a b (a + b) (nplus_n gd a b (by omega) (by omega)) (by have := Lw_add a b; omega)) ?_
  simp (maxSteps := 10000000) only [↓sx, sx, dP_c]
set_option maxRecDepth 100000 in
theorem nsub_n (a b : Nat) (ha : Lw a < 100000) (hb : Lw b < 100000) (hle : b ≤ a) : Meets Tryz.prog Gd 190 [dP a, dP b] (.tup [dP (a - b), .val (.int .i64 0)]) := by
  refine meets_of_vc (Y := {}) (N := 31) (rs := [.tmp 4, .tmp 5]) mix tk gd Tryz.func190 rfl (by kernel_rfl) rfl rfl (by simp) (by kernel_rfl) ?_
  simp (maxSteps := 10000000) only [↓sx, sx, ↓reduceIte, Nat.reduceEqDiff, dP_c]
  refine CallT.mk (nboth_n a b ha hb) ?_
  simp (maxSteps := 10000000) only [↓sx, sx, ↓reduceIte, Nat.reduceEqDiff, Int.reduceBNe, nP_c]
  refine CallT.mk (ncmp_n gd a b (by omega) (by omega)) ?_
  simp (maxSteps := 10000000) only [↓sx, sx, ↓reduceIte, Nat.reduceEqDiff, iP_c]
  refine vcIf_dec (fun h => ?_) (fun h => ?_)
  · exfalso
    unfold cmpI at h
    rw [if_neg (by omega)] at h
    split at h <;> omega
  · refine CallT.mk (napply_n _ a b (a - b) (nminus_n gd a b (by omega) (by omega) hle) (by have := Lw_mono (Nat.sub_le a b); omega)) ?_
    simp (maxSteps := 10000000) only [↓sx, sx, dP_c]
set_option maxRecDepth 100000 in
theorem nmul_n (a b : Nat) (ha : Lw a < 100000) (hb : Lw b < 100000) : Meets Tryz.prog Gd 163 [dP a, dP b] (.tup [dP (a * b), .val (.int .i64 0)]) := by
  refine meets_of_vc (Y := {}) (N := 25) (rs := [.tmp 4, .tmp 5]) mix tk gd Tryz.func163 rfl (by kernel_rfl) rfl rfl (by simp) (by kernel_rfl) ?_
  simp (maxSteps := 10000000) only [↓sx, sx, ↓reduceIte, Nat.reduceEqDiff, dP_c]
  refine CallT.mk (nboth_n a b ha hb) ?_
  simp (maxSteps := 10000000) only [↓sx, sx, ↓reduceIte, Nat.reduceEqDiff, Int.reduceBNe, nP_c]
  refine CallT.mk (napply_n _ a b (a * b) (ntimes_n gd a b (by omega) (by omega)) (by have := Lw_mul a b; omega)) ?_
  simp (maxSteps := 10000000) only [↓sx, sx, dP_c]
set_option maxRecDepth 100000 in
theorem ngcdt_n (a b : Nat) (ha : Lw a < 100000) (hb : Lw b < 100000) : Meets Tryz.prog Gd 143 [dP a, dP b] (.tup [dP (Nat.gcd a b), .val (.int .i64 0)]) := by
  refine meets_of_vc (Y := {}) (N := 25) (rs := [.tmp 4, .tmp 5]) mix tk gd Tryz.func143 rfl (by kernel_rfl) rfl rfl (by simp) (by kernel_rfl) ?_
  simp (maxSteps := 10000000) only [↓sx, sx, ↓reduceIte, Nat.reduceEqDiff, dP_c]
  refine CallT.mk (nboth_n a b ha hb) ?_
  simp (maxSteps := 10000000) only [↓sx, sx, ↓reduceIte, Nat.reduceEqDiff, Int.reduceBNe, nP_c]
  have hg : Lw (Nat.gcd a b) < 1000000 := by
    by_cases h0 : a = 0
    · subst h0; rw [Nat.gcd_zero_left]; omega
    · have := Lw_mono (Nat.le_of_dvd (by omega) (Nat.gcd_dvd_left a b)); omega
  refine CallT.mk (napply_n _ a b (Nat.gcd a b) (ngcd_n gd a b (by omega) (by omega)) hg) ?_
  simp (maxSteps := 10000000) only [↓sx, sx, dP_c]
set_option maxRecDepth 100000 in
theorem ncompare_n (a b : Nat) (ha : Lw a < 100000) (hb : Lw b < 100000) : Meets Tryz.prog Gd 189 [dP a, dP b] (.tup [iP (cmpI a b), .val (.int .i64 0)]) := by
  refine meets_of_vc (Y := {}) (N := 22) (rs := [.tmp 4, .tmp 5]) mix tk gd Tryz.func189 rfl (by kernel_rfl) rfl rfl (by simp) (by kernel_rfl) ?_
  simp (maxSteps := 10000000) only [↓sx, sx, ↓reduceIte, Nat.reduceEqDiff, dP_c]
  refine CallT.mk (nboth_n a b ha hb) ?_
  simp (maxSteps := 10000000) only [↓sx, sx, ↓reduceIte, Nat.reduceEqDiff, Int.reduceBNe, nP_c]
  refine CallT.mk (ncmp_n gd a b (by omega) (by omega)) ?_
  simp (maxSteps := 10000000) only [↓sx, sx, iP_c]
set_option maxRecDepth 100000 in
theorem ndivmod_n (a b : Nat) (ha : Lw a < 100000) (hb : Lw b < 100000) (hb0 : 0 < b) : Meets Tryz.prog Gd 215 [dP a, dP b] (.tup [dP (a / b), dP (a % b), .val (.int .i64 0)]) := by
  refine meets_of_vc (Y := {}) (N := 37) (rs := [.tmp 4, .tmp 5, .tmp 6]) mix tk gd Tryz.func215 rfl (by kernel_rfl) rfl rfl (by simp) (by kernel_rfl) ?_
  simp (maxSteps := 10000000) only [↓sx, sx, ↓ty, ↓reduceIte, Nat.reduceEqDiff, dP_c]
  refine CallT.mk (nboth_n a b ha hb) ?_
  simp (maxSteps := 10000000) only [↓sx, sx, ↓reduceIte, Nat.reduceEqDiff, Int.reduceBNe, nP_c, len_Lw]
  refine vcIf_b (fun h => ?_) (fun h => ?_)
  · exfalso
    have : Lw b = 0 := by simpa using h
    have := (Lw_zero_iff b).1 this
    omega
  · refine CallT.mk (ndivide_n gd a b (by omega) (by omega) hb0) ?_
    simp (maxSteps := 10000000) only [↓sx, sx, ↓reduceIte, nP_c]
    refine CallT.mk (text_n (a / b) (by have := Lw_mono (Nat.div_le_self a b); omega)) ?_
    simp (maxSteps := 10000000) only [↓sx, sx, ↓reduceIte, Nat.reduceEqDiff, strP_c]
    refine CallT.mk (text_n (a % b) (by have := Lw_mono (Nat.le_of_lt (Nat.mod_lt a hb0)); omega)) ?_
    simp (maxSteps := 10000000) only [↓sx, sx, ↓reduceIte, Nat.reduceEqDiff, strP_c]
end Go.Proofs.YtnlabeglboomlaaGreatDoor.S
namespace Gb
open Go Go.RowKit Go.Sx
def cutM : List UInt8 → List UInt8 × Bool
  | [] => ([], false)
  | c :: r => if c = 45 then (r, true) else (c :: r, false)
theorem cutM_cons (c : UInt8) (r : List UInt8) : cutM (c :: r) = if c = 45 then (r, true) else (c :: r, false) := rfl
def nmP (z : Int) : PV := .agg [.val (.bool (decide (z < 0))), dP z.natAbs]
theorem nmP_c (z : Int) : nmP z = .agg [.val (.bool (decide (z < 0))), .val (.string ⟨(Lib.decDigits z.natAbs).toArray⟩)] := rfl
theorem isInt_cutM (l : List UInt8) : isInt l = (isNat (cutM l).1 && !((cutM l).2 == true && (cutM l).1 == [48])) := by
  cases l with
  | nil => rfl
  | cons c r =>
    rw [isInt_cons, cutM_cons]
    by_cases hc : c = 45
    · rw [if_pos hc, if_pos hc]; simp; rfl
    · rw [if_neg hc, if_neg hc]; simp
theorem cutM_int {l : List UInt8} (h : isInt l = true) : (PV.agg [.val (.bool (cutM l).2), strP (cutM l).1]) = nmP (intOf l) := by
  cases l with
  | nil => simp [isInt] at h
  | cons c r =>
    rw [isInt_cons] at h
    rw [cutM_cons, intOf_cons]
    by_cases hc : c = 45
    · rw [if_pos hc] at h ⊢
      rw [if_pos hc]
      simp only [Bool.and_eq_true, bne_iff_ne] at h
      have h0 : natOf r ≠ 0 := fun h0 => h.2 (natOf_zero h.1 h0)
      unfold nmP dP
      rw [Int.natAbs_neg, Int.natAbs_natCast, dec_natOf h.1]
      have : decide (-(natOf r : Int) < 0) = true := by simp; omega
      rw [this]
    · rw [if_neg hc] at h ⊢
      rw [if_neg hc]
      unfold nmP dP
      rw [Int.natAbs_natCast, dec_natOf h]
      have : decide ((natOf (c :: r) : Int) < 0) = false := by simp
      rw [this]
theorem dec_is0 (n : Nat) : (Lib.decDigits n == [48]) = decide (n = 0) := by
  by_cases h : n = 0
  · subst h; rw [Lib.decDigits]; rfl
  · have := dec_pos_ne h
    simp [this, h]
end Gb
namespace Go.Proofs.YtnlabeglboomlaaGreatDoor.S
open Go Go.Sx Go.RowKit Gb
set_option maxRecDepth 100000 in
theorem hasp_n (l m : List UInt8) : Meets Tryz.prog Gd 200 [strP l, strP m] (.val (.bool (decide (m.length ≤ l.length) && l.take m.length == m))) := by
  refine meets_of_vc (Y := {}) (N := 18) (rs := [.tmp 4]) mix tk gd Tryz.func200 rfl (by kernel_rfl) rfl rfl (by simp) (by kernel_rfl) ?_
  simp (maxSteps := 10000000) only [↓sx, sx, ↓ty, ↓reduceIte, Nat.reduceEqDiff, Nat.reduceLT, strP_c]
  refine vcIf_dec (fun h => ?_) (fun h => ?_)
  · refine ⟨by omega, ?_⟩
    have : m.length ≤ l.length := by omega
    simp [this]
  · have : ¬ m.length ≤ l.length := by omega
    simp [this]
set_option maxRecDepth 100000 in
theorem cutp_n (l m : List UInt8) : Meets Tryz.prog Gd 181 [strP l, strP m] (if decide (m.length ≤ l.length) && l.take m.length == m then .tup [strP (l.drop m.length), .val (.bool true)] else .tup [strP l, .val (.bool false)]) := by
  refine meets_of_vc (Y := {}) (N := 15) (rs := [.tmp 4, .tmp 5]) mix tk gd Tryz.func181 rfl (by kernel_rfl) rfl rfl (by simp) (by kernel_rfl) ?_
  simp (maxSteps := 10000000) only [↓sx, sx, ↓ty, ↓reduceIte, Nat.reduceEqDiff, strP_c]
  refine CallT.mk (hasp_n l m) ?_
  simp (maxSteps := 10000000) only [↓sx, sx, ↓ty, ↓reduceIte, Nat.reduceEqDiff]
  refine vcIf_b (fun h => ?_) (fun h => ?_)
  · rw [Bool.not_eq_true'] at h
    rw [if_neg (by rw [h]; simp)]
  · rw [Bool.not_eq_false'] at h
    rw [if_pos h]
    simp only [Bool.and_eq_true, decide_eq_true_eq] at h
    refine ⟨by omega, ?_⟩
    simp [List.take_of_length_le]
set_option maxRecDepth 100000 in
theorem cutpp_n (l m : List UInt8) : Meets Tryz.prog Gd 157 [strP l, strP m] (if decide (m.length ≤ l.length) && l.take m.length == m then .tup [strP (l.drop m.length), .val (.bool true)] else .tup [strP l, .val (.bool false)]) := by
  refine meets_of_vc (Y := {}) (N := 11) (rs := [.tmp 4, .tmp 5]) mix tk gd Tryz.func157 rfl (by kernel_rfl) rfl rfl (by simp) (by kernel_rfl) ?_
  simp (maxSteps := 10000000) only [↓sx, sx, ↓reduceIte, Nat.reduceEqDiff, strP_c]
  refine CallT.mk (cutp_n l m) ?_
  by_cases h : (decide (m.length ≤ l.length) && l.take m.length == m) = true
  · rw [if_pos h]
    simp (maxSteps := 10000000) only [↓sx, sx, strP_c]
    rw [if_pos h]
  · rw [if_neg h]
    simp (maxSteps := 10000000) only [↓sx, sx, strP_c]
    rw [if_neg h]
theorem cutm_n (l : List UInt8) : Meets Tryz.prog Gd 157 [strP l, strP [45]] (.tup [strP (cutM l).1, .val (.bool (cutM l).2)]) := by
  have := cutpp_n l [45]
  cases l with
  | nil => exact this
  | cons c r =>
    rw [cutM_cons]
    by_cases hc : c = 45
    · subst hc
      rw [if_pos rfl]
      rw [if_pos (by simp)] at this
      exact this
    · rw [if_neg hc]
      rw [if_neg (by simp [hc])] at this
      exact this
set_option maxRecDepth 100000 in
theorem iread_n (l : List UInt8) (hl : l.length < 10000000) : Meets Tryz.prog Gd 141 [strP l] (.tup [.agg [.val (.bool (cutM l).2), strP (cutM l).1], .val (.bool (isInt l))]) := by
  refine meets_of_vc (Y := { ex := [3] }) (N := 23) (rs := [.cell 2 165, .tmp 3]) mix tk gd Tryz.func141 rfl (by kernel_rfl) rfl rfl (by simp) (by kernel_rfl) ?_
  simp (maxSteps := 10000000) only [↓sx, sx, ↓ty, ↓reduceIte, Nat.reduceEqDiff, Nat.reduceAdd, Nat.reduceLeDiff, List.getElem?_cons_zero, List.getElem?_cons_succ, and_self, Bool.and_self, Nat.reduceAdd, Nat.le_refl, strP_c]
  refine CallT.mk (cutm_n l) ?_
  simp (maxSteps := 10000000) only [↓sx, sx, ↓ty, ↓reduceIte, Nat.reduceEqDiff, Nat.reduceAdd, Nat.reduceLeDiff, List.getElem?_cons_zero, List.getElem?_cons_succ, and_self, Bool.and_self, Nat.reduceAdd, Nat.le_refl, strP_c]
  refine ⟨by kernel_rfl, ?_⟩
  have hlen : (cutM l).1.length < 100000000 := by
    cases l with
    | nil => simp [cutM]
    | cons c r => rw [cutM_cons]; simp at hl; split <;> simp <;> omega
  refine CallT.mk (nvalid_n (cutM l).1 hlen) ?_
  simp (maxSteps := 10000000) only [↓sx, sx, ↓ty, ↓reduceIte, Nat.reduceEqDiff, Nat.reduceAdd, Nat.reduceLT, and_self, Bool.and_self, Nat.reduceAdd, Nat.le_refl, ag]
  refine vcIf_b (fun h => ?_) (fun h => ?_)
  · rw [isInt_cutM, h, Bool.true_and]
  · rw [isInt_cutM, h, Bool.false_and]
set_option maxRecDepth 100000 in
theorem zero_n : Meets Tryz.prog Gd 162 [] (nmP 0) := by
  refine meets_of_vc (Y := {}) (N := 2) (rs := [.cell 0 165]) mix tk gd Tryz.func162 rfl (by kernel_rfl) rfl rfl (by simp) (by kernel_rfl) ?_
  simp (maxSteps := 10000000) only [↓sx, sx, ↓ty, ↓reduceIte, Nat.reduceEqDiff, Nat.reduceAdd, Nat.reduceLeDiff, List.getElem?_cons_zero, List.getElem?_cons_succ, and_self, Bool.and_self, Nat.reduceAdd, Nat.le_refl]
  rw [nmP_c, show (0 : Int).natAbs = 0 from rfl, Lib.decDigits]
  rfl
set_option maxRecDepth 100000 in
theorem with_n (b : Bool) (n : Nat) (z : Int) (hz : zmk b n = z) : Meets Tryz.prog Gd 164 [.val (.bool b), dP n] (nmP z) := by
  subst hz
  refine meets_of_vc (Y := {}) (N := 12) (rs := [.cell 4 165]) mix tk gd Tryz.func164 rfl (by kernel_rfl) rfl rfl (by simp) (by kernel_rfl) ?_
  simp (maxSteps := 10000000) only [↓sx, sx, ↓ty, ↓reduceIte, Nat.reduceEqDiff, Nat.reduceAdd, Nat.reduceLeDiff, Nat.reduceLT, List.getElem?_cons_zero, List.getElem?_cons_succ, and_self, Bool.and_self, Nat.reduceAdd, Nat.le_refl, dP_c, nmP_c, zmk_abs]
  refine vcIf_b (fun h => ?_) (fun h => ?_)
  · subst h
    have : (!(Lib.decDigits n == [48])) = decide (zmk true n < 0) := by
      rw [dec_is0]
      unfold zmk
      by_cases h0 : n = 0
      · subst h0; rfl
      · simp [h0]; omega
    rw [← this]
  · subst h
    have : decide (zmk false n < 0) = false := by unfold zmk; simp
    rw [this]
end Go.Proofs.YtnlabeglboomlaaGreatDoor.S
namespace Gb
open Go
theorem ne0_iff (z : Int) : (decide (z < 0) == false && Lib.decDigits z.natAbs == [48]) = decide (z = 0) := by
  rw [dec_is0]
  by_cases h : z = 0
  · subst h; rfl
  · have : z.natAbs ≠ 0 := by omega
    simp [h]
end Gb
namespace Go.Proofs.YtnlabeglboomlaaGreatDoor.S
open Go Go.Sx Go.RowKit Gb
set_option maxRecDepth 100000 in
theorem itext_n (z : Int) (hz : Lw z.natAbs < 1000000) : Meets Tryz.prog Gd 147 [nmP z] (siP z) := by
  refine meets_of_vc (Y := {}) (N := 10) (rs := [.tmp 2]) mix tk gd Tryz.func147 rfl (by kernel_rfl) rfl rfl (by simp) (by kernel_rfl) ?_
  simp (maxSteps := 10000000) only [↓sx, sx, ↓ty, ↓reduceIte, Nat.reduceEqDiff, Nat.reduceAdd, ne_eq, not_false_eq_true, List.getElem?_cons_zero, List.getElem?_cons_succ, Nat.reduceAdd, nmP_c, siP_c]
  have := dec_len z.natAbs
  refine vcIf_dec (fun h => ?_) (fun h => ?_)
  · refine ⟨by omega, ?_⟩
    unfold iD
    rw [if_pos h]
  · unfold iD
    rw [if_neg h]
set_option maxRecDepth 100000 in
theorem iopp_n (z : Int) : Meets Tryz.prog Gd 149 [nmP z] (nmP (-z)) := by
  refine meets_of_vc (Y := {}) (N := 9) (rs := [.cell 2 165]) mix tk gd Tryz.func149 rfl (by kernel_rfl) rfl rfl (by simp) (by kernel_rfl) ?_
  simp (maxSteps := 10000000) only [↓sx, sx, ↓ty, ↓reduceIte, Nat.reduceEqDiff, Nat.reduceAdd, ne_eq, not_false_eq_true, List.getElem?_cons_zero, List.getElem?_cons_succ, Nat.reduceAdd, nmP_c]
  refine CallT.mk (with_n (!decide (z < 0)) z.natAbs (-z) ?_) ?_
  · by_cases h : z < 0
    · simp [zmk, h]; omega
    · simp [zmk, h]; omega
  · simp (maxSteps := 10000000) only [↓sx, sx, ↓ty, ↓reduceIte, Nat.reduceEqDiff, Nat.reduceAdd, and_self, Bool.and_self, Nat.reduceAdd, Nat.le_refl, nmP_c]
set_option maxRecDepth 100000 in
theorem isign_n (z : Int) : Meets Tryz.prog Gd 150 [nmP z] (iP z.sign) := by
  refine meets_of_vc (Y := {}) (N := 10) (rs := [.tmp 2]) mix tk gd Tryz.func150 rfl (by kernel_rfl) rfl rfl (by simp) (by kernel_rfl) ?_
  simp (maxSteps := 10000000) only [↓sx, sx, ↓ty, ↓reduceIte, Nat.reduceEqDiff, Nat.reduceAdd, Nat.reduceAdd, Nat.le_refl, nmP_c, iP_c]
  refine CallT.mk zero_n ?_
  simp (maxSteps := 10000000) only [↓sx, sx, ↓ty, ↓reduceIte, Nat.reduceEqDiff, Nat.reduceAdd, ne_eq, not_false_eq_true, List.getElem?_cons_zero, Bool.and_self, Nat.reduceAdd, nmP_c, ag]
  have e0 : decide ((0 : Int) < 0) = false := rfl
  have e1 : Lib.decDigits (0 : Int).natAbs = [48] := by rw [show (0 : Int).natAbs = 0 from rfl, Lib.decDigits]; rfl
  rw [e0, e1, ne0_iff]
  refine vcIf_dec (fun h => ?_) (fun h => ?_)
  · subst h; rfl
  · refine vcIf_dec (fun h2 => ?_) (fun h2 => ?_)
    · rw [Int.sign_eq_neg_one_of_neg h2]
    · rw [Int.sign_eq_one_of_pos (by omega)]
set_option maxRecDepth 100000 in
theorem isum_n (x y : Int) (hx : Lw x.natAbs < 100000) (hy : Lw y.natAbs < 100000) (h : x < 0 ↔ y < 0) : Meets Tryz.prog Gd 165 [nmP x, nmP y] (nmP (x + y)) := by
  refine meets_of_vc (Y := {}) (N := 19) (rs := [.cell 4 165]) mix tk gd Tryz.func165 rfl (by kernel_rfl) rfl rfl (by simp) (by kernel_rfl) ?_
  simp (maxSteps := 10000000) only [↓sx, sx, ↓ty, ↓reduceIte, Nat.reduceEqDiff, Nat.reduceAdd, ne_eq, not_false_eq_true, List.getElem?_cons_zero, List.getElem?_cons_succ, Nat.reduceAdd, nmP_c]
  refine CallT.mk (nadd_n x.natAbs y.natAbs hx hy) ?_
  simp (maxSteps := 10000000) only [↓sx, sx, ↓reduceIte, Nat.reduceEqDiff, Nat.reduceAdd, ne_eq, not_false_eq_true, Nat.reduceAdd, dP_c]
  refine CallT.mk (with_n (decide (x < 0)) (x.natAbs + y.natAbs) (x + y) ?_) ?_
  · by_cases hx0 : x < 0
    · simp [zmk, hx0]; omega
    · simp [zmk, hx0]; omega
  · simp (maxSteps := 10000000) only [↓sx, sx, ↓ty, ↓reduceIte, Nat.reduceEqDiff, Nat.reduceAdd, and_self, Bool.and_self, Nat.reduceAdd, Nat.le_refl, nmP_c]
set_option maxRecDepth 100000 in
theorem idiff_n (x y : Int) (hx : Lw x.natAbs < 100000) (hy : Lw y.natAbs < 100000) (h : ¬ (x < 0 ↔ y < 0)) : Meets Tryz.prog Gd 166 [nmP x, nmP y] (nmP (x + y)) := by
  refine meets_of_vc (Y := {}) (N := 33) (rs := [.cell 4 165]) mix tk gd Tryz.func166 rfl (by kernel_rfl) rfl rfl (by simp) (by kernel_rfl) ?_
  simp (maxSteps := 10000000) only [↓sx, sx, ↓ty, ↓reduceIte, Nat.reduceEqDiff, Nat.reduceAdd, ne_eq, not_false_eq_true, List.getElem?_cons_zero, List.getElem?_cons_succ, Nat.reduceAdd, nmP_c]
  refine CallT.mk (ncompare_n x.natAbs y.natAbs hx hy) ?_
  simp (maxSteps := 10000000) only [↓sx, sx, ↓ty, ↓reduceIte, Nat.reduceEqDiff, Nat.reduceAdd, ne_eq, not_false_eq_true, and_self, Bool.and_self, Nat.reduceAdd, Nat.le_refl, iP_c]
  refine vcIf_dec (fun hc => ?_) (fun hc => ?_)
  · have hle : x.natAbs ≤ y.natAbs := by
      unfold cmpI at hc
      split at hc
      · omega
      · split at hc <;> omega
    refine CallT.mk (nsub_n y.natAbs x.natAbs hy hx hle) ?_
    simp (maxSteps := 10000000) only [↓sx, sx, ↓reduceIte, Nat.reduceEqDiff, Nat.reduceAdd, ne_eq, not_false_eq_true, Nat.reduceAdd, dP_c]
    refine CallT.mk (with_n (decide (y < 0)) (y.natAbs - x.natAbs) (x + y) ?_) ?_
    · by_cases hy0 : y < 0
      · simp [zmk, hy0]; omega
      · simp [zmk, hy0]; omega
    · simp (maxSteps := 10000000) only [↓sx, sx, ↓ty, ↓reduceIte, Nat.reduceEqDiff, Nat.reduceAdd, and_self, Bool.and_self, Nat.reduceAdd, Nat.le_refl, nmP_c]
  · have hle : y.natAbs ≤ x.natAbs := by
      unfold cmpI at hc
      split at hc
      · omega
      · omega
    refine CallT.mk (nsub_n x.natAbs y.natAbs hx hy hle) ?_
    simp (maxSteps := 10000000) only [↓sx, sx, ↓reduceIte, Nat.reduceEqDiff, Nat.reduceAdd, ne_eq, not_false_eq_true, Nat.reduceAdd, dP_c]
    refine CallT.mk (with_n (decide (x < 0)) (x.natAbs - y.natAbs) (x + y) ?_) ?_
    · by_cases hx0 : x < 0
      · simp [zmk, hx0]; omega
      · simp [zmk, hx0]; omega
    · simp (maxSteps := 10000000) only [↓sx, sx, ↓ty, ↓reduceIte, Nat.reduceEqDiff, Nat.reduceAdd, and_self, Bool.and_self, Nat.reduceAdd, Nat.le_refl, nmP_c]
set_option maxRecDepth 100000 in
theorem ibit_n (b : Bool) : Meets Tryz.prog Gd 167 [.val (.bool b)] (iP (if b then 1 else 0)) := by
  refine meets_of_vc (Y := {}) (N := 4) (rs := [.tmp 2]) mix tk gd Tryz.func167 rfl (by kernel_rfl) rfl rfl (by simp) (by kernel_rfl) ?_
  simp (maxSteps := 10000000) only [↓sx, sx, ↓reduceIte, Nat.reduceEqDiff, iP_c]
  refine vcIf_b (fun h => ?_) (fun h => ?_)
  · subst h; rfl
  · subst h; rfl
set_option maxRecDepth 100000 in
theorem iplus_n (x y : Int) (hx : Lw x.natAbs < 100000) (hy : Lw y.natAbs < 100000) : Meets Tryz.prog Gd 148 [nmP x, nmP y] (nmP (x + y)) := by
  refine meets_of_vc (Y := {}) (N := 21) (rs := [.cell 4 165]) mix tk gd Tryz.func148 rfl (by kernel_rfl) rfl rfl (by simp) (by kernel_rfl) ?_
  by_cases hx0 : x < 0 <;> by_cases hy0 : y < 0
  · simp (maxSteps := 10000000) only [↓sx, sx, ↓ty, ↓reduceIte, Nat.reduceEqDiff, Nat.reduceAdd, Nat.reduceLeDiff, Nat.reduceMul, ne_eq, not_false_eq_true, List.getElem?_cons_zero, and_self, Bool.and_self, Nat.reduceAdd, Nat.le_refl, nmP_c]
    refine CallT.mk (ibit_n _) ?_
    simp (maxSteps := 10000000) only [↓sx, sx, ↓reduceIte, Nat.reduceEqDiff, Nat.reduceAdd, ne_eq, not_false_eq_true, Nat.reduceAdd, iP_c]
    refine CallT.mk (ibit_n _) ?_
    simp (maxSteps := 10000000) only [↓sx, sx, ↓ty, ↓reduceIte, Nat.reduceEqDiff, Nat.reduceAdd, Nat.reduceLT, Nat.reduceMul, Nat.reduceAdd, Nat.le_refl, iP_c, hx0, hy0, decide_true, Int.reduceToNat]
    refine ⟨by omega, by omega, ?_⟩
    refine CallT.to (isum_n x y hx hy (by omega)) (by simp [nmP_c, hx0, hy0]) ?_
    simp (maxSteps := 10000000) only [↓sx, sx, ↓reduceIte, Nat.reduceEqDiff, Nat.reduceAdd, and_self, Bool.and_self, Nat.reduceAdd, Nat.le_refl, nmP_c]
  · simp (maxSteps := 10000000) only [↓sx, sx, ↓ty, ↓reduceIte, Nat.reduceEqDiff, Nat.reduceAdd, Nat.reduceLeDiff, Nat.reduceMul, ne_eq, not_false_eq_true, List.getElem?_cons_zero, and_self, Bool.and_self, Nat.reduceAdd, Nat.le_refl, nmP_c]
    refine CallT.mk (ibit_n _) ?_
    simp (maxSteps := 10000000) only [↓sx, sx, ↓reduceIte, Nat.reduceEqDiff, Nat.reduceAdd, ne_eq, not_false_eq_true, Nat.reduceAdd, iP_c]
    refine CallT.mk (ibit_n _) ?_
    simp (maxSteps := 10000000) only [↓sx, sx, ↓ty, ↓reduceIte, Nat.reduceEqDiff, Nat.reduceAdd, Nat.reduceLT, Nat.reduceMul, Nat.reduceAdd, Nat.le_refl, iP_c, hx0, hy0, decide_true, decide_false, Int.reduceToNat]
    refine ⟨by omega, by omega, ?_⟩
    refine CallT.to (idiff_n x y hx hy (by omega)) (by simp [nmP_c, hx0, hy0]) ?_
    simp (maxSteps := 10000000) only [↓sx, sx, ↓reduceIte, Nat.reduceEqDiff, Nat.reduceAdd, and_self, Bool.and_self, Nat.reduceAdd, Nat.le_refl, nmP_c]
  · simp (maxSteps := 10000000) only [↓sx, sx, ↓ty, ↓reduceIte, Nat.reduceEqDiff, Nat.reduceAdd, Nat.reduceLeDiff, Nat.reduceMul, ne_eq, not_false_eq_true, List.getElem?_cons_zero, and_self, Bool.and_self, Nat.reduceAdd, Nat.le_refl, nmP_c]
    refine CallT.mk (ibit_n _) ?_
    simp (maxSteps := 10000000) only [↓sx, sx, ↓reduceIte, Nat.reduceEqDiff, Nat.reduceAdd, ne_eq, not_false_eq_true, Nat.reduceAdd, iP_c]
    refine CallT.mk (ibit_n _) ?_
    simp (maxSteps := 10000000) only [↓sx, sx, ↓ty, ↓reduceIte, Nat.reduceEqDiff, Nat.reduceAdd, Nat.reduceLT, Nat.reduceMul, Nat.reduceAdd, Nat.le_refl, iP_c, hx0, hy0, decide_true, decide_false, Int.reduceToNat]
    refine ⟨by omega, by omega, ?_⟩
    refine CallT.to (idiff_n x y hx hy (by omega)) (by simp [nmP_c, hx0, hy0]) ?_
    simp (maxSteps := 10000000) only [↓sx, sx, ↓reduceIte, Nat.reduceEqDiff, Nat.reduceAdd, and_self, Bool.and_self, Nat.reduceAdd, Nat.le_refl, nmP_c]
  · simp (maxSteps := 10000000) only [↓sx, sx, ↓ty, ↓reduceIte, Nat.reduceEqDiff, Nat.reduceAdd, Nat.reduceLeDiff, Nat.reduceMul, ne_eq, not_false_eq_true, List.getElem?_cons_zero, and_self, Bool.and_self, Nat.reduceAdd, Nat.le_refl, nmP_c]
    refine CallT.mk (ibit_n _) ?_
    simp (maxSteps := 10000000) only [↓sx, sx, ↓reduceIte, Nat.reduceEqDiff, Nat.reduceAdd, ne_eq, not_false_eq_true, Nat.reduceAdd, iP_c]
    refine CallT.mk (ibit_n _) ?_
    simp (maxSteps := 10000000) only [↓sx, sx, ↓ty, ↓reduceIte, Nat.reduceEqDiff, Nat.reduceAdd, Nat.reduceLT, Nat.reduceMul, Nat.reduceAdd, Nat.le_refl, iP_c, hx0, hy0, decide_false]
    refine ⟨by omega, by omega, ?_⟩
    refine CallT.to (isum_n x y hx hy (by omega)) (by simp [nmP_c, hx0, hy0]) ?_
    simp (maxSteps := 10000000) only [↓sx, sx, ↓reduceIte, Nat.reduceEqDiff, Nat.reduceAdd, and_self, Bool.and_self, Nat.reduceAdd, Nat.le_refl, nmP_c]
set_option maxRecDepth 100000 in
theorem itimes_n (x y : Int) (hx : Lw x.natAbs < 100000) (hy : Lw y.natAbs < 100000) : Meets Tryz.prog Gd 146 [nmP x, nmP y] (nmP (x * y)) := by
  refine meets_of_vc (Y := {}) (N := 22) (rs := [.cell 4 165]) mix tk gd Tryz.func146 rfl (by kernel_rfl) rfl rfl (by simp) (by kernel_rfl) ?_
  simp (maxSteps := 10000000) only [↓sx, sx, ↓ty, ↓reduceIte, Nat.reduceEqDiff, Nat.reduceAdd, ne_eq, not_false_eq_true, List.getElem?_cons_zero, List.getElem?_cons_succ, Nat.reduceAdd, nmP_c]
  refine CallT.mk (nmul_n x.natAbs y.natAbs hx hy) ?_
  simp (maxSteps := 10000000) only [↓sx, sx, ↓ty, ↓reduceIte, Nat.reduceEqDiff, Nat.reduceAdd, ne_eq, not_false_eq_true, Nat.reduceAdd, dP_c]
  refine CallT.mk (with_n (!decide (x < 0) == decide (y < 0)) (x.natAbs * y.natAbs) (x * y) ?_) ?_
  · conv => rhs; rw [← zmk_self x, ← zmk_self y]
    unfold zmk
    by_cases h1 : x < 0 <;> by_cases h2 : y < 0 <;> simp [h1, h2, Int.natCast_mul, Int.neg_mul, Int.mul_neg]
  · simp (maxSteps := 10000000) only [↓sx, sx, ↓ty, ↓reduceIte, Nat.reduceEqDiff, Nat.reduceAdd, and_self, Bool.and_self, Nat.reduceAdd, Nat.le_refl, nmP_c]
set_option maxRecDepth 100000 in
theorem idivide_n (x y : Int) (hx : Lw x.natAbs < 100000) (hy : Lw y.natAbs < 100000) (h0 : y ≠ 0) : Meets Tryz.prog Gd 230 [nmP x, nmP y] (.tup [nmP (x / y), nmP (x % y)]) := by
  refine meets_of_vc (Y := {}) (N := 45) (rs := [.cell 4 165, .cell 5 165]) mix tk gd Tryz.func230 rfl (by kernel_rfl) rfl rfl (by simp) (by kernel_rfl) ?_
  simp (maxSteps := 10000000) only [↓sx, sx, ↓ty, ↓reduceIte, Nat.reduceEqDiff, Nat.reduceAdd, ne_eq, not_false_eq_true, List.getElem?_cons_zero, List.getElem?_cons_succ, Nat.reduceAdd, nmP_c]
  refine CallT.mk (ndivmod_n x.natAbs y.natAbs hx hy (by omega)) ?_
  simp (maxSteps := 10000000) only [↓sx, sx, ↓ty, ↓reduceIte, Nat.reduceEqDiff, Nat.reduceAdd, Nat.reduceLT, ne_eq, not_false_eq_true, Nat.reduceAdd, dP_c]
  have hm : 0 < y.natAbs := by omega
  have hn : (x.natAbs : Int) = y.natAbs * (x.natAbs / y.natAbs : Nat) + (x.natAbs % y.natAbs : Nat) := by
    have := Nat.div_add_mod x.natAbs y.natAbs
    rw [← Int.natCast_mul, ← Int.natCast_add, this]
  have hr : x.natAbs % y.natAbs < y.natAbs := Nat.mod_lt _ hm
  have hq : Lw (x.natAbs / y.natAbs) ≤ Lw x.natAbs := Lw_mono (Nat.div_le_self _ _)
  have hrL : Lw (x.natAbs % y.natAbs) ≤ Lw y.natAbs := Lw_mono (by omega)
  generalize x.natAbs / y.natAbs = q at *
  generalize x.natAbs % y.natAbs = r at *
  have key : ∀ (b : Bool) (q' r' : Nat), zmk b q' * y + (r' : Int) = x → r' < y.natAbs → zmk b q' = x / y ∧ (r' : Int) = x % y := by
    intro b q' r' h1 h2
    have := euclid_unique h0 h1 (by omega) (by omega)
    exact ⟨this.1.symm, this.2.symm⟩
  have hy' : y = zmk (decide (y < 0)) y.natAbs := (zmk_self y).symm
  have e49 : (⟨#[49]⟩ : ByteArray) = ⟨(Lib.decDigits 1).toArray⟩ := by rw [Lib.decDigits]; rfl
  have fin : ∀ (q' r' : Nat), zmk (!decide (x < 0) == decide (y < 0)) q' = x / y → (r' : Int) = x % y → Meets Tryz.prog Gd 164 [.val (.bool (!decide (x < 0) == decide (y < 0))), dP q'] (nmP (x / y)) ∧ Meets Tryz.prog Gd 164 [.val (.bool false), dP r'] (nmP (x % y)) := by
    intro q' r' h1 h2
    exact ⟨with_n _ _ _ h1, with_n _ _ _ (by rw [← h2]; simp [zmk])⟩
  have rest : x < 0 → r ≠ 0 → zmk (!decide (x < 0) == decide (y < 0)) (q + 1) = x / y ∧ ((y.natAbs - r : Nat) : Int) = x % y := by
    intro hx0 hr0
    refine key (!decide (x < 0) == decide (y < 0)) (q + 1) (y.natAbs - r) ?_ (by omega)
    have e1 : ((y.natAbs - r : Nat) : Int) = y.natAbs - r := by omega
    rw [e1]
    conv => lhs; rw [hy', zmk_abs]
    unfold zmk
    by_cases hy0 : y < 0 <;> simp [hx0, hy0] <;> grind
  have plain : (x < 0 → r = 0) → zmk (!decide (x < 0) == decide (y < 0)) q = x / y ∧ (r : Int) = x % y := by
    intro hx0
    refine key (!decide (x < 0) == decide (y < 0)) q r ?_ hr
    rw [hy']
    unfold zmk
    by_cases hx1 : x < 0
    · have := hx0 hx1
      subst this
      by_cases hy0 : y < 0 <;> simp [hx1, hy0] <;> grind
    · by_cases hy0 : y < 0 <;> simp [hx1, hy0] <;> grind
  refine vcIf_dec (fun hx0 => vcIf_b (fun hr0 => ?_) (fun hr0 => ?_)) (fun hx0 => ?_)
  · have hr0 : r ≠ 0 := by
      intro h
      subst h
      rw [dec_is0] at hr0
      simp at hr0
    obtain ⟨k1, k2⟩ := rest hx0 hr0
    obtain ⟨f1, f2⟩ := fin (q + 1) (y.natAbs - r) k1 k2
    refine CallT.to (nadd_n q 1 (by omega) (by rw [Lw_one]; omega)) (by rw [e49]; rfl) ?_
    simp (maxSteps := 10000000) only [↓sx, sx, ↓reduceIte, Nat.reduceEqDiff, Nat.reduceAdd, ne_eq, not_false_eq_true, Nat.reduceAdd, dP_c]
    refine CallT.mk (nsub_n y.natAbs r hy (by omega) (by omega)) ?_
    simp (maxSteps := 10000000) only [↓sx, sx, ↓ty, ↓reduceIte, Nat.reduceEqDiff, Nat.reduceAdd, ne_eq, not_false_eq_true, Nat.reduceAdd, dP_c]
    refine CallT.mk f1 ?_
    simp (maxSteps := 10000000) only [↓sx, sx, ↓reduceIte, Nat.reduceEqDiff, nmP_c]
    refine CallT.mk f2 ?_
    simp (maxSteps := 10000000) only [↓sx, sx, ↓ty, ↓reduceIte, Nat.reduceEqDiff, Nat.reduceAdd, and_self, Bool.and_self, Nat.reduceAdd, Nat.le_refl, nmP_c]
  · have hr0 : r = 0 := by
      rw [dec_is0] at hr0
      simpa using hr0
    obtain ⟨k1, k2⟩ := plain (fun _ => hr0)
    obtain ⟨f1, f2⟩ := fin q r k1 k2
    refine CallT.mk f1 ?_
    simp (maxSteps := 10000000) only [↓sx, sx, ↓reduceIte, Nat.reduceEqDiff, nmP_c]
    refine CallT.mk f2 ?_
    simp (maxSteps := 10000000) only [↓sx, sx, ↓ty, ↓reduceIte, Nat.reduceEqDiff, Nat.reduceAdd, and_self, Bool.and_self, Nat.reduceAdd, Nat.le_refl, nmP_c]
  · obtain ⟨k1, k2⟩ := plain (fun h => absurd h hx0)
    obtain ⟨f1, f2⟩ := fin q r k1 k2
    refine CallT.mk f1 ?_
    simp (maxSteps := 10000000) only [↓sx, sx, ↓reduceIte, Nat.reduceEqDiff, nmP_c]
    refine CallT.mk f2 ?_
    simp (maxSteps := 10000000) only [↓sx, sx, ↓ty, ↓reduceIte, Nat.reduceEqDiff, Nat.reduceAdd, and_self, Bool.and_self, Nat.reduceAdd, Nat.le_refl, nmP_c]
end Go.Proofs.YtnlabeglboomlaaGreatDoor.S
namespace Gb
open Go Go.Sx
theorem e48 : (⟨#[48]⟩ : ByteArray) = ⟨(iD 0).toArray⟩ := by rw [show iD 0 = Lib.decDigits 0 from rfl, Lib.decDigits]; rfl
end Gb
namespace Go.Proofs.YtnlabeglboomlaaGreatDoor.S
open Go Go.Sx Go.RowKit Gb
theorem iread_d (z : Int) (h : Lw z.natAbs < 100000) : Meets Tryz.prog Gd 141 [siP z] (.tup [nmP z, .val (.bool true)]) := by
  have := iread_n (iD z) (by have := iD_len z; omega)
  rw [isInt_iD, cutM_int (isInt_iD z), intOf_iD] at this
  exact this
set_option maxRecDepth 100000 in
theorem iboth_n (x y : Int) (hx : Lw x.natAbs < 100000) (hy : Lw y.natAbs < 100000) : Meets Tryz.prog Gd 145 [siP x, siP y] (.tup [nmP x, nmP y, .val (.int .i64 0)]) := by
  refine meets_of_vc (Y := { ex := [5] }) (N := 31) (rs := [.cell 4 165, .cell 5 165, .tmp 6]) mix tk gd Tryz.func145 rfl (by kernel_rfl) rfl rfl (by simp) (by kernel_rfl) ?_
  simp (maxSteps := 10000000) only [↓sx, sx, ↓ty, ↓reduceIte, Nat.reduceEqDiff, siP_c]
  refine CallT.mk (iread_d x hx) ?_
  simp (maxSteps := 10000000) only [↓sx, sx, ↓ty, ↓reduceIte, Nat.reduceEqDiff, Nat.reduceAdd, and_self, Bool.and_self, Nat.reduceAdd, Nat.le_refl, nmP_c]
  refine CallT.mk (iread_d y hy) ?_
  simp (maxSteps := 10000000) only [↓sx, sx, ↓ty, ↓reduceIte, Nat.reduceEqDiff, Nat.reduceAdd, Nat.reduceLT, and_self, Bool.and_self, Nat.reduceAdd, Nat.le_refl, nmP_c]
  kernel_rfl
set_option maxRecDepth 100000 in
theorem ione_n (x : Int) (hx : Lw x.natAbs < 100000) : Meets Tryz.prog Gd 158 [siP x] (.tup [nmP x, .val (.int .i64 0)]) := by
  refine meets_of_vc (Y := {}) (N := 15) (rs := [.cell 2 165, .tmp 3]) mix tk gd Tryz.func158 rfl (by kernel_rfl) rfl rfl (by simp) (by kernel_rfl) ?_
  simp (maxSteps := 10000000) only [↓sx, sx, ↓ty, ↓reduceIte, Nat.reduceEqDiff, siP_c]
  refine CallT.to (iboth_n x 0 hx (by simp [Lw_zero])) (by rw [e48]; rfl) ?_
  simp (maxSteps := 10000000) only [↓sx, sx, ↓ty, ↓reduceIte, Nat.reduceEqDiff, Nat.reduceAdd, and_self, Bool.and_self, Nat.reduceAdd, Nat.le_refl, nmP_c]
set_option maxRecDepth 100000 in
theorem ivalid_n (l : List UInt8) (hl : l.length < 10000000) : Meets Tryz.prog Gd 117 [strP l] (.val (.bool (isInt l))) := by
  refine meets_of_vc (Y := {}) (N := 11) (rs := [.tmp 2]) mix tk gd Tryz.func117 rfl (by kernel_rfl) rfl rfl (by simp) (by kernel_rfl) ?_
  simp (maxSteps := 10000000) only [↓sx, sx, ↓ty, ↓reduceIte, Nat.reduceEqDiff, strP_c]
  refine CallT.mk (iread_n l hl) ?_
  simp (maxSteps := 10000000) only [↓sx, sx, ↓ty, ↓reduceIte, Nat.reduceEqDiff, Nat.reduceAdd, and_self, Bool.and_self, Nat.reduceAdd, Nat.le_refl, strP_c]
set_option maxRecDepth 100000 in
theorem isignt_n (x : Int) (hx : Lw x.natAbs < 100000) : Meets Tryz.prog Gd 144 [siP x] (.tup [iP x.sign, .val (.int .i64 0)]) := by
  refine meets_of_vc (Y := {}) (N := 14) (rs := [.tmp 2, .tmp 3]) mix tk gd Tryz.func144 rfl (by kernel_rfl) rfl rfl (by simp) (by kernel_rfl) ?_
  simp (maxSteps := 10000000) only [↓sx, sx, ↓ty, ↓reduceIte, Nat.reduceEqDiff, siP_c]
  refine CallT.mk (ione_n x hx) ?_
  simp (maxSteps := 10000000) only [↓sx, sx, ↓ty, ↓reduceIte, Nat.reduceEqDiff, Nat.reduceAdd, and_self, Bool.and_self, Nat.reduceAdd, Nat.le_refl, nmP_c]
  refine CallT.mk (isign_n x) ?_
  simp (maxSteps := 10000000) only [↓sx, sx, ↓reduceIte, Nat.reduceEqDiff, iP_c]
set_option maxRecDepth 100000 in
theorem iabs_n (x : Int) (hx : Lw x.natAbs < 100000) : Meets Tryz.prog Gd 142 [siP x] (.tup [dP x.natAbs, .val (.int .i64 0)]) := by
  refine meets_of_vc (Y := {}) (N := 16) (rs := [.tmp 2, .tmp 3]) mix tk gd Tryz.func142 rfl (by kernel_rfl) rfl rfl (by simp) (by kernel_rfl) ?_
  simp (maxSteps := 10000000) only [↓sx, sx, ↓ty, ↓reduceIte, Nat.reduceEqDiff, List.getElem?_cons_zero, List.getElem?_cons_succ, siP_c]
  refine CallT.mk (ione_n x hx) ?_
  simp (maxSteps := 10000000) only [↓sx, sx, ↓ty, ↓reduceIte, Nat.reduceEqDiff, Nat.reduceAdd, Int.reduceBNe, ne_eq, not_false_eq_true, and_self, Bool.and_self, Nat.reduceAdd, Nat.le_refl, nmP_c, dP_c]
set_option maxRecDepth 100000 in
theorem ineg_n (x : Int) (hx : Lw x.natAbs < 100000) : Meets Tryz.prog Gd 197 [siP x] (.tup [siP (-x), .val (.int .i64 0)]) := by
  refine meets_of_vc (Y := {}) (N := 17) (rs := [.tmp 2, .tmp 3]) mix tk gd Tryz.func197 rfl (by kernel_rfl) rfl rfl (by simp) (by kernel_rfl) ?_
  simp (maxSteps := 10000000) only [↓sx, sx, ↓ty, ↓reduceIte, Nat.reduceEqDiff, siP_c]
  refine CallT.mk (ione_n x hx) ?_
  simp (maxSteps := 10000000) only [↓sx, sx, ↓ty, ↓reduceIte, Nat.reduceEqDiff, Nat.reduceAdd, Int.reduceBNe, and_self, Bool.and_self, Nat.reduceAdd, Nat.le_refl, nmP_c]
  refine CallT.mk (iopp_n x) ?_
  simp (maxSteps := 10000000) only [↓sx, sx, ↓reduceIte, nmP_c]
  refine CallT.mk (itext_n (-x) (by rw [Int.natAbs_neg]; omega)) ?_
  simp (maxSteps := 10000000) only [↓sx, sx, siP_c]
set_option maxRecDepth 100000 in
theorem icompare_n (x y : Int) (hx : Lw x.natAbs < 100000) (hy : Lw y.natAbs < 100000) : Meets Tryz.prog Gd 123 [siP x, siP y] (.tup [iP (x - y).sign, .val (.int .i64 0)]) := by
  refine meets_of_vc (Y := {}) (N := 22) (rs := [.tmp 4, .tmp 5]) mix tk gd Tryz.func123 rfl (by kernel_rfl) rfl rfl (by simp) (by kernel_rfl) ?_
  simp (maxSteps := 10000000) only [↓sx, sx, ↓ty, ↓reduceIte, Nat.reduceEqDiff, siP_c]
  refine CallT.mk (iboth_n x y hx hy) ?_
  simp (maxSteps := 10000000) only [↓sx, sx, ↓ty, ↓reduceIte, Nat.reduceEqDiff, Nat.reduceAdd, and_self, Bool.and_self, Nat.reduceAdd, Nat.le_refl, nmP_c]
  refine CallT.mk (iopp_n y) ?_
  simp (maxSteps := 10000000) only [↓sx, sx, nmP_c]
  refine CallT.mk (iplus_n x (-y) hx (by rw [Int.natAbs_neg]; exact hy)) ?_
  simp (maxSteps := 10000000) only [↓sx, sx, nmP_c]
  refine CallT.mk (isign_n (x + -y)) ?_
  simp (maxSteps := 10000000) only [↓sx, sx, ↓reduceIte, iP_c]
  rw [Int.sub_eq_add_neg]
set_option maxRecDepth 100000 in
theorem iadd_n (x y : Int) (hx : Lw x.natAbs < 100000) (hy : Lw y.natAbs < 100000) : Meets Tryz.prog Gd 195 [siP x, siP y] (.tup [siP (x + y), .val (.int .i64 0)]) := by
  refine meets_of_vc (Y := {}) (N := 23) (rs := [.tmp 4, .tmp 5]) mix tk gd Tryz.func195 rfl (by kernel_rfl) rfl rfl (by simp) (by kernel_rfl) ?_
  simp (maxSteps := 10000000) only [↓sx, sx, ↓ty, ↓reduceIte, Nat.reduceEqDiff, siP_c]
  refine CallT.mk (iboth_n x y hx hy) ?_
  simp (maxSteps := 10000000) only [↓sx, sx, ↓ty, ↓reduceIte, Nat.reduceEqDiff, Nat.reduceAdd, Int.reduceBNe, and_self, Bool.and_self, Nat.reduceAdd, Nat.le_refl, nmP_c]
  refine CallT.mk (iplus_n x y hx hy) ?_
  simp (maxSteps := 10000000) only [↓sx, sx, ↓reduceIte, nmP_c]
  have hb : Lw (x + y).natAbs < 1000000 := by
    have h1 := Lw_mono (show (x + y).natAbs ≤ x.natAbs + y.natAbs by omega)
    have h2 := Lw_add x.natAbs y.natAbs
    omega
  refine CallT.mk (itext_n (x + y) hb) ?_
  simp (maxSteps := 10000000) only [↓sx, sx, siP_c]
set_option maxRecDepth 100000 in
theorem imul_n (x y : Int) (hx : Lw x.natAbs < 100000) (hy : Lw y.natAbs < 100000) : Meets Tryz.prog Gd 122 [siP x, siP y] (.tup [siP (x * y), .val (.int .i64 0)]) := by
  refine meets_of_vc (Y := {}) (N := 23) (rs := [.tmp 4, .tmp 5]) mix tk gd Tryz.func122 rfl (by kernel_rfl) rfl rfl (by simp) (by kernel_rfl) ?_
  simp (maxSteps := 10000000) only [↓sx, sx, ↓ty, ↓reduceIte, Nat.reduceEqDiff, siP_c]
  refine CallT.mk (iboth_n x y hx hy) ?_
  simp (maxSteps := 10000000) only [↓sx, sx, ↓ty, ↓reduceIte, Nat.reduceEqDiff, Nat.reduceAdd, Int.reduceBNe, and_self, Bool.and_self, Nat.reduceAdd, Nat.le_refl, nmP_c]
  refine CallT.mk (itimes_n x y hx hy) ?_
  simp (maxSteps := 10000000) only [↓sx, sx, ↓reduceIte, nmP_c]
  have hb : Lw (x * y).natAbs < 1000000 := by
    rw [Int.natAbs_mul]
    have h2 := Lw_mul x.natAbs y.natAbs
    omega
  refine CallT.mk (itext_n (x * y) hb) ?_
  simp (maxSteps := 10000000) only [↓sx, sx, siP_c]
set_option maxRecDepth 100000 in
theorem idivmod_n (x y : Int) (hx : Lw x.natAbs < 100000) (hy : Lw y.natAbs < 100000) (h0 : y ≠ 0) : Meets Tryz.prog Gd 214 [siP x, siP y] (.tup [siP (x / y), siP (x % y), .val (.int .i64 0)]) := by
  refine meets_of_vc (Y := {}) (N := 37) (rs := [.tmp 4, .tmp 5, .tmp 6]) mix tk gd Tryz.func214 rfl (by kernel_rfl) rfl rfl (by simp) (by kernel_rfl) ?_
  simp (maxSteps := 10000000) only [↓sx, sx, ↓ty, ↓reduceIte, Nat.reduceEqDiff, siP_c]
  refine CallT.mk (iboth_n x y hx hy) ?_
  simp (maxSteps := 10000000) only [↓sx, sx, ↓ty, ↓reduceIte, Nat.reduceEqDiff, Nat.reduceAdd, Int.reduceBNe, and_self, Bool.and_self, Nat.reduceAdd, Nat.le_refl, nmP_c]
  refine CallT.mk zero_n ?_
  simp (maxSteps := 10000000) only [↓sx, sx, ↓ty, ↓reduceIte, Nat.reduceEqDiff, Nat.reduceAdd, Bool.and_self, Nat.reduceAdd, Nat.le_refl, nmP_c, ag]
  have e0 : decide ((0 : Int) < 0) = false := rfl
  have e1 : Lib.decDigits (0 : Int).natAbs = [48] := by rw [show (0 : Int).natAbs = 0 from rfl, Lib.decDigits]; rfl
  rw [e0, e1, ne0_iff]
  refine vcIf_dec (fun h => absurd h h0) (fun _ => ?_)
  refine CallT.mk (idivide_n x y hx hy h0) ?_
  simp (maxSteps := 10000000) only [↓sx, sx, ↓ty, ↓reduceIte, Nat.reduceEqDiff, Nat.reduceAdd, and_self, Bool.and_self, Nat.reduceAdd, Nat.le_refl, nmP_c]
  have hb1 := Lw_ediv x y h0
  have hb2 := Lw_emod x y h0
  refine CallT.mk (itext_n (x / y) (by omega)) ?_
  simp (maxSteps := 10000000) only [↓sx, sx, ↓reduceIte, Nat.reduceAdd, Nat.reduceAdd, Nat.le_refl, siP_c]
  refine CallT.mk (itext_n (x % y) (by omega)) ?_
  simp (maxSteps := 10000000) only [↓sx, sx, siP_c]
end Go.Proofs.YtnlabeglboomlaaGreatDoor.S
namespace Go.Proofs.YtnlabeglboomlaaGreatDoor.S
open Go Go.Sx Go.RowKit Go.Shelf Gb
theorem set_push (a : Array Obj) (o o' : Obj) : (a.push o).setIfInBounds a.size o' = a.push o' := by
  apply Array.ext
  · simp
  · intro i h1 h2
    rw [Array.getElem_setIfInBounds (by simpa using h1), Array.getElem_push]
    rw [Array.getElem_push]
    simp only [Array.size_push] at h2
    split <;> split <;> first | rfl | omega
theorem set_alloc (w : World) (o o' : Obj) : ({ heap := (w.alloc o).heap.setIfInBounds w.heap.size o', tape := w.tape, drawn := w.drawn, os := (w.alloc o).os, output := (w.alloc o).output } : World) = w.alloc o' := by
  show ({ w with heap := (w.heap.push o).setIfInBounds w.heap.size o' } : World) = { w with heap := w.heap.push o' }
  rw [set_push]
def opsL : List (Int × FuncId) := [(43, 171), (42, 172), (45, 173), (47, 175)]
theorem run_ins (w : World) (es : Array MapEntry) (c : Nat) (k : Int) (g : FuncId) (h : Instr.findNow (.int .u8) (.int .u8 k) es.toList 0 = some none) :
    (Instr.mapUpdate 160 (.map (some w.heap.size)) (.int .u8 k) (.func (.func g) #[] #[])).run Tryz.prog (w.alloc (.map es c)) = .ok () (w.alloc (.map (es.push { key := .int .u8 k, val := .func (.func g) #[] #[], born := c }) (c + 1))) := by
  have hb : (w.alloc (.map es c)).heap[w.heap.size]? = some (.map es c) := by
    show (w.heap.push _)[w.heap.size]? = _
    simp
  have hm : Tryz.prog.underlying 160 = some (.map 5 159) := by kernel_rfl
  have hd : Tryz.prog.underlying 5 = some (.int .u8) := by kernel_rfl
  simp [Instr.mapUpdate, run_underlying hm, MapKept.run_getObj_map hb, MapKept.run_checkKey (k := .int .u8 k) hd (by simp [MapKept.IsKey]), MapKept.run_findKey hd h, MapKept.run_setObj_map _ hb, Result.andThen]
  exact set_alloc w _ _
theorem four (w : World) : ∃ E1 E2 E3 E4 : Array MapEntry, (Instr.mapUpdate 160 (.map (some w.heap.size)) (.int .u8 43) (.func (.func 171) #[] #[])).run Tryz.prog (w.alloc (.map #[] 0)) = .ok () (w.alloc (.map E1 1)) ∧
    (Instr.mapUpdate 160 (.map (some w.heap.size)) (.int .u8 42) (.func (.func 172) #[] #[])).run Tryz.prog (w.alloc (.map E1 1)) = .ok () (w.alloc (.map E2 2)) ∧
    (Instr.mapUpdate 160 (.map (some w.heap.size)) (.int .u8 45) (.func (.func 173) #[] #[])).run Tryz.prog (w.alloc (.map E2 2)) = .ok () (w.alloc (.map E3 3)) ∧
    (Instr.mapUpdate 160 (.map (some w.heap.size)) (.int .u8 47) (.func (.func 175) #[] #[])).run Tryz.prog (w.alloc (.map E3 3)) = .ok () (w.alloc (.map E4 4)) ∧
    E4.toList.map (fun e => (e.key, e.val)) = opsL.map fun x => (Value.int .u8 x.1, Value.func (.func x.2) ⟨[]⟩ ⟨[]⟩) :=
  ⟨_, _, _, _, run_ins w _ _ _ _ rfl, run_ins w _ _ _ _ rfl, run_ins w _ _ _ _ rfl, run_ins w _ _ _ _ rfl, rfl⟩
set_option maxHeartbeats 6400000 in
set_option maxRecDepth 100000 in
theorem operations_n : Meets Tryz.prog Gd 155 [] (.mp opsL) := by
  refine ⟨enters_of Tryz.func155 (by kernel_rfl) rfl, fun B vs w hB hr hG => ?_⟩
  simp only [RepL] at hr
  subst hr
  have hmm := @run_makeMap Tryz.prog
  obtain ⟨E1, E2, E3, E4, h1, h2, h3, h4, e⟩ := four w
  go_enter Tryz.func155, Tryz.ntmps155
  go_wp2
  go_ret
  refine ⟨_, rfl, ?_, ?_⟩
  · simp only [RepP]
    refine ⟨w.heap.size, E4, 4, rfl, ⟨.inr (Nat.le_refl _), ?_⟩, ?_, e⟩
    · show _ < (w.heap.push _).size
      simp
    · show (w.heap.push _)[w.heap.size]? = _
      simp
  · exact (Below.refl _ _).alloc (Nat.le_refl _) _
set_option maxRecDepth 100000 in
theorem all_n : Meets Tryz.prog Gd 138 [] (.mp opsL) := by
  refine meets_of_vc (Y := {}) (N := 2) (rs := [.tmp 0]) mix tk gd Tryz.func138 rfl (by kernel_rfl) rfl rfl (by simp) (by kernel_rfl) ?_
  simp (maxSteps := 10000000) only [↓sx, sx]
  refine CallT.mk operations_n ?_
  simp (maxSteps := 10000000) only [↓sx, sx, ↓reduceIte]
end Go.Proofs.YtnlabeglboomlaaGreatDoor.S
namespace Gb
open Go Go.RowKit Go.Sx
def frP (x : Rat) : PV := .agg [siP x.num, dP x.den]
theorem pd : ∀ x : Rat, frP x = .agg [.val (.string ⟨(iD x.num).toArray⟩), .val (.string ⟨(Lib.decDigits x.den).toArray⟩)] := fun _ => rfl
theorem iD_nat (n : Nat) : iD (n : Int) = Lib.decDigits n := by unfold iD; rw [if_neg (by omega), Int.natAbs_natCast]
theorem siP_nat (n : Nat) : siP (n : Int) = dP n := by unfold siP dP; rw [iD_nat]
theorem dec_0 : Lib.decDigits 0 = [48] := by rw [Lib.decDigits]; rfl
theorem dec_1 : Lib.decDigits 1 = [49] := by rw [Lib.decDigits]; rfl
theorem dec_eq0 (n : Nat) : (Lib.decDigits n == [48]) = decide (n = 0) := by
  by_cases h : n = 0
  · rw [h, dec_0]; rfl
  · have : Lib.decDigits n ≠ [48] := dec_pos_ne h
    simp [this, h]
theorem dec_eq1 (n : Nat) : (Lib.decDigits n == [49]) = decide (n = 1) := by
  by_cases h : n = 1
  · rw [h, dec_1]; rfl
  · have : Lib.decDigits n ≠ [49] := by
      intro h0
      have := natOf_dec n
      rw [h0] at this
      exact h this.symm
    simp [this, h]
theorem iD_eq0 (z : Int) : (iD z == [48]) = decide (z = 0) := by
  unfold iD
  by_cases h : z < 0
  · rw [if_pos h]
    have h1 : ¬ z = 0 := by omega
    have h2 : (45 : UInt8) ≠ 48 := by decide
    simp [h1]
  · rw [if_neg h, dec_eq0]
    congr 1
    simp
theorem idx_splitM : ∀ l, (Lib.indexByte l 47 = -1 ∧ splitM l = (l, [49], false)) ∨ ∃ n : Nat, n < l.length ∧ Lib.indexByte l 47 = n ∧ splitM l = (l.take n, l.drop (n + 1), true)
  | [] => .inl ⟨rfl, rfl⟩
  | c :: r => by
    rw [splitM_cons, Lib.indexByte]
    by_cases h : c = 47
    · subst h
      exact .inr ⟨0, by simp, rfl, rfl⟩
    · rw [if_neg h, if_neg (by simpa using h)]
      rcases idx_splitM r with ⟨h1, h2⟩ | ⟨n, h0, h1, h2⟩
      · exact .inl ⟨by rw [h1]; rfl, by rw [h2]⟩
      · refine .inr ⟨n + 1, by simp; omega, ?_, ?_⟩
        · rw [h1, if_neg (by rw [beq_iff_eq]; omega)]; omega
        · rw [h2]; rfl
def cutW (l : List UInt8) : List UInt8 × List UInt8 × Bool := if (splitM l).2.2 then splitM l else (l, [], false)
theorem parseM64 (l : List UInt8) : ∀ (acc : Nat), (∀ c ∈ l, isD c = true) → acc * 10 ^ l.length + natOf l < 18446744073709551616 → Lib.parseUintM 18446744073709551615 acc l = .ok (acc * 10 ^ l.length + natOf l) := by
  induction l with
  | nil => intro acc _ _; simp [Lib.parseUintM, natOf]
  | cons c r ih =>
    intro acc hd h
    have hc := isD_iff.1 (hd c (List.mem_cons_self ..))
    have e : natOf (c :: r) = (c.toNat - 48) * 10 ^ r.length + natOf r := by
      rw [show c :: r = [c] ++ r from rfl, natOf_append]
      congr 2
      simp [natOf]
    have hp : 0 < 10 ^ r.length := Nat.pow_pos (by omega)
    have e2 : acc * 10 ^ (r.length + 1) + ((c.toNat - 48) * 10 ^ r.length + natOf r) = (acc * 10 + (c.toNat - 48)) * 10 ^ r.length + natOf r := by
      rw [Nat.pow_succ]; grind
    rw [e, List.length_cons, e2] at h ⊢
    have hb : acc * 10 + (c.toNat - 48) < 18446744073709551616 := by
      have : (acc * 10 + (c.toNat - 48)) * 1 ≤ (acc * 10 + (c.toNat - 48)) * 10 ^ r.length := Nat.mul_le_mul_left _ hp
      omega
    rw [Lib.parseUintM, if_pos ⟨hc.1, hc.2⟩, if_neg (by omega), if_neg (by omega)]
    exact ih _ (fun x hx => hd x (List.mem_cons_of_mem _ hx)) h
theorem parse64 (n : Nat) (h : n < 1000000000) : Lib.parseUintB 64 (Lib.decDigits n) = .ok n := by
  have hd := (isNat_iff.1 (isNat_dec n))
  have h0 : Lib.decDigits n ≠ [] := by intro h0; have := isNat_dec n; rw [h0] at this; simp [isNat] at this
  have := parseM64 (Lib.decDigits n) 0 hd.2.1 (by rw [natOf_dec]; omega)
  rw [Nat.zero_mul, Nat.zero_add, natOf_dec] at this
  rw [Lib.parseUintB, if_neg h0]
  exact this
theorem parseI (z : Int) (h1 : -1000000000 < z) (h2 : z < 1000000000) : Lib.parseIntB 64 (iD z) = .ok z := by
  unfold iD
  by_cases h : z < 0
  · rw [if_pos h]
    simp only [Lib.parseIntB]
    rw [if_pos (.inr rfl), parse64 _ (by omega)]
    simp
    rw [if_neg (by omega)]
    congr 1
    omega
  · rw [if_neg h]
    have hn := parse64 z.natAbs (by omega)
    have hd := (isNat_iff.1 (isNat_dec z.natAbs)).2.1
    cases hl : Lib.decDigits z.natAbs with
    | nil => rw [hl] at hn; simp [Lib.parseUintB] at hn
    | cons c r =>
      rw [hl] at hn hd
      have hc := isD_iff.1 (hd c (List.mem_cons_self ..))
      simp only [Lib.parseIntB]
      rw [if_neg (by omega), hn]
      have : ¬ c.toNat = 45 := by omega
      simp [this]
      rw [if_neg (by omega)]
      congr 1
      omega
theorem dec_short {n : Nat} (h : (Lib.decDigits n).length ≤ 9) : n < 1000000000 := by
  have := natOf_lt _ (isNat_iff.1 (isNat_dec n)).2.1
  rw [natOf_dec] at this
  have h2 := Nat.pow_le_pow_right (show 0 < 10 by omega) h
  omega
theorem iD_short {z : Int} (h : (iD z).length ≤ 9) : -1000000000 < z ∧ z < 1000000000 := by
  have : (Lib.decDigits z.natAbs).length ≤ 9 := by
    unfold iD at h
    split at h
    · simp at h; omega
    · exact h
  have := dec_short this
  omega
theorem itoa_iD (z : Int) : Lib.itoa z = iD z := by
  unfold Lib.itoa iD
  by_cases h : z < 0
  · rw [if_pos h, if_pos h]
  · rw [if_neg h, if_neg h]
    congr 1
    omega
def shortQ (x : Rat) : Bool := decide ((iD x.num).length ≤ 9) && decide ((Lib.decDigits x.den).length ≤ 9)
theorem shortQ_spec {x : Rat} (h : shortQ x = true) : -1000000000 < x.num ∧ x.num < 1000000000 ∧ x.den < 1000000000 := by
  unfold shortQ at h
  simp only [Bool.and_eq_true, decide_eq_true_eq] at h
  have := iD_short h.1
  have := dec_short h.2
  omega
theorem tmod_natAbs (a b : Int) : (a.tmod b).natAbs = a.natAbs % b.natAbs := Int.natAbs_tmod a b
theorem tdiv_dvd {p : Int} {g : Nat} (h : g ∣ p.natAbs) : p.tdiv g = p / g := by
  have : (g : Int) ∣ p := Int.ofNat_dvd_left.2 h
  exact Int.tdiv_eq_ediv_of_dvd this
end Gb
namespace Go.Proofs.YtnlabeglboomlaaGreatDoor.S
open Go Go.Sx Go.RowKit Gb Go.Shelf
theorem index_n (l : List UInt8) : Meets Tryz.prog Gd 156 [strP l, strP [47]] (iP (Lib.indexByte l 47)) := by
  refine meets_val [.string ⟨l.toArray⟩, .string ⟨#[47]⟩] (.int .i64 (Lib.indexByte l 47)) (enters_of Tryz.func156 (by kernel_rfl) rfl) ?_ ?_
  · intro B w
    simp only [iP, RepP]
  · intro w _
    refine (Tryz.stringslite_Index_one ⟨l.toArray⟩ 47 w).mono ?_
    rintro e w' ⟨rfl, rfl⟩
    exact ⟨rfl, Below.refl _ _⟩
set_option maxRecDepth 100000 in
theorem cuts_n (l : List UInt8) (hl : l.length < 10000000) : Meets Tryz.prog Gd 140 [strP l, strP [47]] (.tup [strP (cutW l).1, strP (cutW l).2.1, .val (.bool (cutW l).2.2)]) := by
  refine meets_of_vc (Y := {}) (N := 23) (rs := [.tmp 4, .tmp 5, .tmp 6]) mix tk gd Tryz.func140 rfl (by kernel_rfl) rfl rfl (by simp) (by kernel_rfl) ?_
  simp (maxSteps := 10000000) only [↓sx, sx, ↓reduceIte, Nat.reduceEqDiff, pc]
  refine CallT.mk (index_n l) ?_
  simp (maxSteps := 10000000) only [↓sx, sx, ↓ty, ↓reduceIte, Nat.reduceEqDiff, Nat.reduceAdd, pc, ls, Nat.reduceAdd]
  rcases idx_splitM l with ⟨h1, h2⟩ | ⟨n, h0, h1, h2⟩
  · rw [h1]
    have : cutW l = (l, [], false) := by unfold cutW; rw [h2]; rfl
    rw [this]
    refine vcIf_dec (fun h => by omega) (fun h => ?_)
    rfl
  · rw [h1]
    have : cutW l = (l.take n, l.drop (n + 1), true) := by unfold cutW; rw [h2]; rfl
    rw [this]
    refine vcIf_dec (fun h => ?_) (fun h => by omega)
    rw [i64_id (x := (n : Int) + ((1 : Nat) : Int)) (by omega) (by omega)]
    refine ⟨by omega, by omega, ?_⟩
    have e1 : ((n : Int) + ((1 : Nat) : Int)).toNat = n + 1 := by omega
    rw [e1]
    simp [List.take_of_length_le]
set_option maxRecDepth 100000 in
theorem cut_n (l : List UInt8) (hl : l.length < 10000000) : Meets Tryz.prog Gd 116 [strP l, strP [47]] (.tup [strP (cutW l).1, strP (cutW l).2.1, .val (.bool (cutW l).2.2)]) := by
  refine meets_of_vc (Y := {}) (N := 13) (rs := [.tmp 4, .tmp 5, .tmp 6]) mix tk gd Tryz.func116 rfl (by kernel_rfl) rfl rfl (by simp) (by kernel_rfl) ?_
  simp (maxSteps := 10000000) only [↓sx, sx, ↓reduceIte, Nat.reduceEqDiff, pc]
  refine CallT.mk (cuts_n l hl) ?_
  simp (maxSteps := 10000000) only [↓sx, sx, ↓reduceIte, Nat.reduceEqDiff, pc]
set_option maxRecDepth 100000 in
theorem ftext_n (x : Rat) (hx : Sz 50000 x) : Meets Tryz.prog Gd 139 [frP x] (rtP x) := by
  refine meets_of_vc (Y := {}) (N := 14) (rs := [.tmp 2]) mix tk gd Tryz.func139 rfl (by kernel_rfl) rfl rfl (by simp) (by kernel_rfl) ?_
  simp (maxSteps := 10000000) only [↓sx, sx, ↓ty, ↓reduceIte, Nat.reduceEqDiff, Nat.reduceAdd, ne_eq, not_false_eq_true, pc, ls, Nat.reduceAdd, pd, dec_eq1]
  have l1 := iD_len x.num
  have l2 := dec_len x.den
  have := hx.1; have := hx.2
  unfold rT
  refine vcIf_dec (fun h => ?_) (fun h => ?_)
  · rw [if_pos h]
  · rw [if_neg h]
    simp
    omega
set_option maxRecDepth 100000 in
theorem divisor_n (p : Int) (q : Nat) (hp : Lw p.natAbs < 100000) (hq : Lw q < 100000) : Meets Tryz.prog Gd 119 [siP p, dP q] (dP (Nat.gcd p.natAbs q)) := by
  refine meets_of_vc (Y := {}) (N := 21) (rs := [.tmp 4]) mix tk gd Tryz.func119 rfl (by kernel_rfl) rfl rfl (by simp) (by kernel_rfl) ?_
  simp (maxSteps := 10000000) only [↓sx, sx, ↓reduceIte, Nat.reduceEqDiff, pc]
  refine CallT.mk (iabs_n p hp) ?_
  simp (maxSteps := 10000000) only [↓sx, sx, ↓reduceIte, Nat.reduceEqDiff, pc]
  refine CallT.mk (ngcdt_n p.natAbs q hp hq) ?_
  simp (maxSteps := 10000000) only [↓sx, sx, ↓reduceIte, Nat.reduceEqDiff, pc]
set_option maxRecDepth 100000 in
theorem lowestp_n (p : Int) (q : Nat) (x : Rat) (hq : q ≠ 0) (h1 : Lw p.natAbs < 100000) (h2 : Lw q < 100000) (hx : Rat.normalize p q hq = x) : Meets Tryz.prog Gd 196 [siP p, dP q] (frP x) := by
  refine meets_of_vc (Y := {}) (N := 28) (rs := [.cell 4 114]) mix tk gd Tryz.func196 rfl (by kernel_rfl) rfl rfl (by simp) (by kernel_rfl) ?_
  have x1 : x.num = p / (p.natAbs.gcd q : Nat) := by rw [← hx, Rat.num_normalize]
  have x2 : x.den = q / p.natAbs.gcd q := by rw [← hx, Rat.den_normalize]
  clear hx
  simp (maxSteps := 10000000) only [↓sx, sx, ↓ty, ↓reduceIte, Nat.reduceEqDiff, pc]
  refine CallT.mk (divisor_n p q h1 h2) ?_
  have hdv : p.natAbs.gcd q ∣ p.natAbs := Nat.gcd_dvd_left _ _
  have hg0 : 0 < p.natAbs.gcd q := Nat.gcd_pos_of_pos_right _ (by omega)
  have hgl : Lw (p.natAbs.gcd q) ≤ Lw q := Lw_mono (Nat.gcd_le_right _ (by omega))
  generalize p.natAbs.gcd q = g at *
  simp (maxSteps := 10000000) only [↓sx, sx, ↓ty, ↓reduceIte, Nat.reduceEqDiff, Nat.reduceAdd, Nat.reduceLeDiff, pc, ls, bs, and_self, Nat.reduceAdd, Nat.le_refl, pd, dec_eq1]
  by_cases h1g : g = 1
  · subst h1g
    refine vcIf_b (fun h => by simp at h) (fun h => ?_)
    rw [x1, x2]
    simp
  · refine vcIf_b (fun h => ?_) (fun h => by simp [h1g] at h)
    refine CallT.to (idivmod_n p (g : Int) h1 (by rw [Int.natAbs_natCast]; omega) (by omega)) (by rw [siP_nat]; rfl) ?_
    simp (maxSteps := 10000000) only [↓sx, sx, ↓reduceIte, Nat.reduceEqDiff, pc]
    refine CallT.mk (ndivmod_n q g h2 (by omega) hg0) ?_
    simp (maxSteps := 10000000) only [↓sx, sx, ↓ty, ↓reduceIte, Nat.reduceEqDiff, Nat.reduceAdd, Nat.reduceLeDiff, pc, ls, bs, and_self, Nat.reduceAdd, Nat.le_refl, pd]
    rw [x1, x2]
end Go.Proofs.YtnlabeglboomlaaGreatDoor.S
namespace Go.Proofs.YtnlabeglboomlaaGreatDoor.S
open Go Go.Sx Go.RowKit Gb Go.Shelf
set_option maxRecDepth 100000 in
theorem fsign_n (x : Rat) (hx : Sz 50000 x) : Meets Tryz.prog Gd 121 [frP x] (iP x.num.sign) := by
  refine meets_of_vc (Y := {}) (N := 12) (rs := [.tmp 2]) mix tk gd Tryz.func121 rfl (by kernel_rfl) rfl rfl (by simp) (by kernel_rfl) ?_
  simp (maxSteps := 10000000) only [↓sx, sx, ↓ty, ↓reduceIte, Nat.reduceEqDiff, Nat.reduceAdd, ne_eq, not_false_eq_true, ls, Nat.reduceAdd, pd]
  refine CallT.mk (isignt_n x.num (by have := hx.1; omega)) ?_
  simp (maxSteps := 10000000) only [↓sx, sx, ↓reduceIte, Nat.reduceEqDiff, pc]
set_option maxRecDepth 100000 in
theorem fopp_n (x : Rat) (hx : Sz 50000 x) : Meets Tryz.prog Gd 174 [frP x] (frP (-x)) := by
  refine meets_of_vc (Y := {}) (N := 15) (rs := [.cell 2 114]) mix tk gd Tryz.func174 rfl (by kernel_rfl) rfl rfl (by simp) (by kernel_rfl) ?_
  simp (maxSteps := 10000000) only [↓sx, sx, ↓ty, ↓reduceIte, Nat.reduceEqDiff, Nat.reduceAdd, ne_eq, not_false_eq_true, ls, Nat.reduceAdd, pd]
  refine CallT.mk (ineg_n x.num (by have := hx.1; omega)) ?_
  simp (maxSteps := 10000000) only [↓sx, sx, ↓ty, ↓reduceIte, Nat.reduceEqDiff, Nat.reduceAdd, Nat.reduceLeDiff, ne_eq, not_false_eq_true, pc, ls, bs, and_self, Nat.reduceAdd, Nat.le_refl, pd]
  rw [Rat.neg_num, Rat.neg_den]
set_option maxRecDepth 100000 in
theorem finv_n (x : Rat) (hx : Sz 50000 x) (h0 : x ≠ 0) : Meets Tryz.prog Gd 176 [frP x] (frP x⁻¹) := by
  have hn : x.num ≠ 0 := by rwa [ne_eq, Rat.num_eq_zero]
  have l2 := dec_len x.den
  have := hx.2
  refine meets_of_vc (Y := {}) (N := 22) (rs := [.cell 2 114]) mix tk gd Tryz.func176 rfl (by kernel_rfl) rfl rfl (by simp) (by kernel_rfl) ?_
  simp (maxSteps := 10000000) only [↓sx, sx, ↓ty, ↓reduceIte, Nat.reduceEqDiff, Nat.reduceAdd, ne_eq, not_false_eq_true, ls, Nat.reduceAdd, pd]
  refine CallT.mk (cutm_n (iD x.num)) ?_
  have i1 : x⁻¹.num = x.num.sign * x.den := by rw [Rat.num_inv]
  have i2 : x⁻¹.den = x.num.natAbs := by rw [Rat.den_inv, if_neg hn]
  by_cases h : x.num < 0
  · have e1 : cutM (iD x.num) = (Lib.decDigits x.num.natAbs, true) := by unfold iD; rw [if_pos h, cutM_cons, if_pos rfl]
    rw [e1]
    simp (maxSteps := 10000000) only [↓sx, sx, ↓ty, ↓reduceIte, Nat.reduceEqDiff, Nat.reduceAdd, Nat.reduceLeDiff, ne_eq, not_false_eq_true, pc, ls, bs, and_self, Nat.reduceAdd, Nat.le_refl, pd]
    have e2 : iD (x.num.sign * x.den) = 45 :: Lib.decDigits x.den := by
      rw [Int.sign_eq_neg_one_of_neg h]
      have := x.den_nz
      unfold iD
      rw [if_pos (by omega)]
      congr 2
      omega
    rw [i1, i2, e2]
    simp
    omega
  · have e1 : cutM (iD x.num) = (Lib.decDigits x.num.natAbs, false) := by
      unfold iD
      rw [if_neg h]
      cases hl : Lib.decDigits x.num.natAbs with
      | nil => rfl
      | cons c r =>
        have := isNat_head (c := c) (r := r) (by rw [← hl]; exact isNat_dec _)
        rw [cutM_cons, if_neg this]
    rw [e1]
    simp (maxSteps := 10000000) only [↓sx, sx, ↓ty, ↓reduceIte, Nat.reduceEqDiff, Nat.reduceAdd, Nat.reduceLeDiff, ne_eq, not_false_eq_true, pc, ls, bs, and_self, Nat.reduceAdd, Nat.le_refl, pd]
    have e2 : iD (x.num.sign * x.den) = Lib.decDigits x.den := by
      rw [Int.sign_eq_one_of_pos (by omega), Int.one_mul, iD_nat]
    have e3 : iD x.num = Lib.decDigits x.num.natAbs := by unfold iD; rw [if_neg h]
    rw [i1, i2, e2, e3]
theorem parseI_n (z : Int) (h1 : -1000000000 < z) (h2 : z < 1000000000) : Meets Tryz.prog Gd 212 [siP z, iP 10, iP 64] (.tup [iP z, .val .nilIface]) := by
  refine meets_val [.string ⟨(iD z).toArray⟩, .int .i64 10, .int .i64 64] (.tuple ⟨[.int .i64 z, .nilIface]⟩) (enters_of Tryz.func212 (by kernel_rfl) rfl) ?_ ?_
  · intro B w
    simp [iP, RepP, RepL]
  · intro w _
    have := iD_len z
    have hl : Lw z.natAbs ≤ 1 := Lw_le (by show z.natAbs < 1000000000 ^ 1; omega)
    refine (Tryz.strconv_ParseInt_10_at64_ok ⟨(iD z).toArray⟩ (by show (iD z).toArray.size ≤ _; simp; omega) z (parseI z h1 h2) w).mono ?_
    rintro e w' ⟨rfl, hw⟩
    refine ⟨rfl, ?_⟩
    rcases hw with rfl | ⟨t, rfl⟩
    · exact Below.refl _ _
    · exact Lib.bytesWorld_below _ _ _
theorem formatI_n (z : Int) (h1 : -9223372036854775808 ≤ z) (h2 : z ≤ 9223372036854775807) : Meets Tryz.prog Gd 213 [iP z, iP 10] (siP z) := by
  refine meets_val [.int .i64 z, .int .i64 10] (.string ⟨(iD z).toArray⟩) (enters_of Tryz.func213 (by kernel_rfl) rfl) ?_ ?_
  · intro B w
    simp [siP_c, RepP]
  · intro w hw
    refine (Tryz.strconv_FormatInt_10 z h1 h2 w hw).mono ?_
    rintro e w' ⟨rfl, k, os, rfl⟩
    rw [itoa_iD]
    exact ⟨rfl, Lib.below_grow _ w (Nat.le_refl _) k os⟩
end Go.Proofs.YtnlabeglboomlaaGreatDoor.S
namespace Go.Proofs.YtnlabeglboomlaaGreatDoor.S
open Go Go.Sx Go.RowKit Gb Go.Shelf
set_option maxRecDepth 100000 in
set_option maxHeartbeats 4000000 in
theorem fread_n (l : List UInt8) (hl : l.length < 300000) : Meets Tryz.prog Gd 91 [strP l] (.tup [.agg [strP (splitM l).1, strP (splitM l).2.1], .val (.bool (isRat l))]) := by
  have hlen := splitM_len l
  have hs := splitM_inv l
  have hR : isRat l = (isInt (splitM l).1 && isNat (splitM l).2.1 && (!(splitM l).2.2 || (decide (1 < natOf (splitM l).2.1) && decide (intOf (splitM l).1 ≠ 0) && decide (Nat.gcd (intOf (splitM l).1).natAbs (natOf (splitM l).2.1) = 1)))) := rfl
  refine meets_of_vc (Y := {}) (N := 48) (rs := [.cell 2 114, .tmp 3]) mix tk gd Tryz.func91 rfl (by kernel_rfl) rfl rfl (by simp) (by kernel_rfl) ?_
  simp (maxSteps := 10000000) only [↓sx, sx, ↓ty, ↓reduceIte, Nat.reduceEqDiff, pc]
  refine CallT.mk (cut_n l (by omega)) ?_
  have hc : cutW l = if (splitM l).2.2 then splitM l else (l, [], false) := rfl
  rw [hc]
  clear hc
  generalize splitM l = q at *
  obtain ⟨p, d, s⟩ := q
  dsimp only at *
  cases s with
  | false =>
    have h3 : p = l ∧ d = [49] := by
      rcases hs with ⟨h, _⟩ | ⟨_, h, h2⟩
      · cases h
      · exact ⟨h.symm, h2⟩
    obtain ⟨rfl, rfl⟩ := h3
    simp only [Bool.false_eq_true, if_false]
    simp (maxSteps := 10000000) only [↓sx, sx, ↓ty, ↓reduceIte, Nat.reduceEqDiff, Nat.reduceAdd, Nat.reduceLeDiff, pc, ls, bs, and_self, Nat.reduceAdd, Nat.le_refl]
    refine CallT.mk (ivalid_n p (by omega)) ?_
    simp (maxSteps := 10000000) only [↓sx, sx, ↓ty, ↓reduceIte, Nat.reduceEqDiff, Nat.reduceAdd, pc, ls, bs, and_self, Nat.reduceAdd, Nat.le_refl]
    rw [hR]
    simp [show isNat [49] = true from by decide]
  | true =>
    simp only [if_true]
    simp (maxSteps := 10000000) only [↓sx, sx, ↓reduceIte, Nat.reduceEqDiff, pc]
    refine CallT.mk (ivalid_n p (by omega)) ?_
    simp (maxSteps := 10000000) only [↓sx, sx, ↓ty, ↓reduceIte, Nat.reduceEqDiff, Nat.reduceAdd, Nat.reduceLeDiff, Nat.reduceLT, pc, ls, bs, and_self, Nat.reduceAdd, Nat.le_refl]
    cases hp : isInt p with
    | false =>
      rw [hp] at hR
      simp only [Bool.false_and] at hR
      simp (maxSteps := 10000000) only [↓sx, sx]
      rw [hR]
    | true =>
      obtain ⟨z, rfl⟩ : ∃ z, p = iD z := ⟨_, (iD_intOf hp).symm⟩
      rw [intOf_iD, hp] at hR
      have lp := Lw_intOf hp
      rw [intOf_iD] at lp
      by_cases hz : z = 0
      · have hR : isRat l = false := by rw [hR]; simp [hz]
        have e1 : (iD z == [48]) = true := by rw [iD_eq0]; simp [hz]
        simp (maxSteps := 10000000) only [↓sx, sx, bs, e1]
        rw [hR]
      · have e1 : (iD z == [48]) = false := by rw [iD_eq0]; simp [hz]
        simp (maxSteps := 10000000) only [↓sx, sx, bs, e1]
        refine CallT.mk (nvalid_n d (by omega)) ?_
        simp (maxSteps := 10000000) only [↓sx, sx, ↓ty, ↓reduceIte, Nat.reduceEqDiff, Nat.reduceAdd, Nat.reduceLeDiff, Nat.reduceLT, pc, ls, bs, and_self, Nat.reduceAdd, Nat.le_refl]
        cases hd : isNat d with
        | false =>
          rw [hd] at hR
          simp only [Bool.false_and, Bool.and_false] at hR
          simp (maxSteps := 10000000) only [↓sx, sx]
          rw [hR]
        | true =>
          obtain ⟨n, rfl⟩ : ∃ n, d = Lib.decDigits n := ⟨_, (dec_natOf hd).symm⟩
          rw [natOf_dec, hd] at hR
          have ld := Lw_natOf (isNat_iff.1 hd).2.1
          rw [natOf_dec] at ld
          by_cases n0 : n = 0
          · have hR : isRat l = false := by rw [hR]; simp [n0]
            have e2 : (Lib.decDigits n == [48]) = true := by rw [dec_eq0]; simp [n0]
            simp (maxSteps := 10000000) only [↓sx, sx, bs, e2]
            rw [hR]
          · have e2 : (Lib.decDigits n == [48]) = false := by rw [dec_eq0]; simp [n0]
            by_cases n1 : n = 1
            · have hR : isRat l = false := by rw [hR]; simp [n1]
              have e3 : (Lib.decDigits n == [49]) = true := by rw [dec_eq1]; simp [n1]
              simp (maxSteps := 10000000) only [↓sx, sx, bs, e2, e3]
              rw [hR]
            · have e3 : (Lib.decDigits n == [49]) = false := by rw [dec_eq1]; simp [n1]
              simp (maxSteps := 10000000) only [↓sx, sx, bs, e2, e3]
              refine CallT.mk (divisor_n z n (by omega) (by omega)) ?_
              simp (maxSteps := 10000000) only [↓sx, sx, ↓ty, ↓reduceIte, Nat.reduceEqDiff, Nat.reduceAdd, Nat.reduceLeDiff, Nat.reduceLT, pc, ls, bs, and_self, Nat.reduceAdd, Nat.le_refl, dec_eq1]
              rw [hR]
              have : 1 < n := by omega
              simp [hz, this]
set_option maxRecDepth 100000 in
set_option maxHeartbeats 4000000 in
theorem flittle_s (x : Rat) (h : shortQ x = true) : Meets Tryz.prog Gd 193 [frP x] (.tup [iP x.num, iP x.den, .val (.bool true)]) := by
  have hs := shortQ_spec h
  unfold shortQ at h
  simp only [Bool.and_eq_true, decide_eq_true_eq] at h
  refine meets_of_vc (Y := {}) (N := 33) (rs := [.tmp 2, .tmp 3, .tmp 4]) mix tk gd Tryz.func193 rfl (by kernel_rfl) rfl rfl (by simp) (by kernel_rfl) ?_
  have e1 : decide (((iD x.num).length : Int) > 9) = false := by simp; omega
  have e2 : decide (((Lib.decDigits x.den).length : Int) > 9) = false := by simp; omega
  simp (maxSteps := 10000000) only [↓sx, sx, ↓ty, ↓reduceIte, Nat.reduceEqDiff, Nat.reduceAdd, Nat.reduceLT, ne_eq, not_false_eq_true, ls, Nat.reduceAdd, pd, e1, e2]
  refine CallT.mk (parseI_n x.num (by omega) (by omega)) ?_
  simp (maxSteps := 10000000) only [↓sx, sx, ↓ty, ↓reduceIte, Nat.reduceEqDiff, Nat.reduceAdd, ne_eq, not_false_eq_true, pc, ls, Nat.reduceAdd]
  refine CallT.to (parseI_n (x.den : Int) (by omega) (by omega)) (by rw [siP_nat]; rfl) ?_
  simp (maxSteps := 10000000) only [↓sx, sx, ↓reduceIte, Nat.reduceEqDiff, pc]
set_option maxRecDepth 100000 in
set_option maxHeartbeats 4000000 in
theorem flittle_l (x : Rat) (h : shortQ x = false) : Meets Tryz.prog Gd 193 [frP x] (.tup [iP 0, iP 0, .val (.bool false)]) := by
  unfold shortQ at h
  simp only [Bool.and_eq_false_iff, decide_eq_false_iff_not] at h
  refine meets_of_vc (Y := {}) (N := 33) (rs := [.tmp 2, .tmp 3, .tmp 4]) mix tk gd Tryz.func193 rfl (by kernel_rfl) rfl rfl (by simp) (by kernel_rfl) ?_
  by_cases h1 : (iD x.num).length ≤ 9
  · have e1 : decide (((iD x.num).length : Int) > 9) = false := by simp; omega
    have e2 : decide (((Lib.decDigits x.den).length : Int) > 9) = true := by simp; omega
    simp (maxSteps := 10000000) only [↓sx, sx, ↓ty, ↓reduceIte, Nat.reduceEqDiff, Nat.reduceAdd, Nat.reduceLT, ne_eq, not_false_eq_true, pc, ls, and_self, Nat.reduceAdd, pd, e1, e2]
  · have e1 : decide (((iD x.num).length : Int) > 9) = true := by simp; omega
    simp (maxSteps := 10000000) only [↓sx, sx, ↓ty, ↓reduceIte, Nat.reduceEqDiff, Nat.reduceAdd, Nat.reduceLT, ne_eq, not_false_eq_true, pc, ls, and_self, Nat.reduceAdd, pd, e1]
end Go.Proofs.YtnlabeglboomlaaGreatDoor.S
namespace Go.Proofs.YtnlabeglboomlaaGreatDoor.S
open Go Go.Sx Go.RowKit Gb Go.Shelf
set_option maxRecDepth 100000 in
set_option maxHeartbeats 4000000 in
theorem fof_n (p : Int) (q : Nat) (x : Rat) (hq : q ≠ 0) (h1 : p.natAbs < 4611686018427387904) (h2 : q < 4611686018427387904) (hx : Rat.normalize p q hq = x) : Meets Tryz.prog Gd 194 [iP p, iP q] (frP x) := by
  have x1 : x.num = p / (p.natAbs.gcd q : Nat) := by rw [← hx, Rat.num_normalize]
  have x2 : x.den = q / p.natAbs.gcd q := by rw [← hx, Rat.den_normalize]
  have hdv : p.natAbs.gcd q ∣ p.natAbs := Nat.gcd_dvd_left _ _
  have hdq : p.natAbs.gcd q ∣ q := Nat.gcd_dvd_right _ _
  have hg0 : 0 < p.natAbs.gcd q := Nat.gcd_pos_of_pos_right _ (by omega)
  have hgl : p.natAbs.gcd q ≤ q := Nat.gcd_le_right _ (by omega)
  clear hx
  refine meets_of_vc (Y := {}) (N := 28) (rs := [.cell 4 114]) mix tk gd Tryz.func194 rfl (by kernel_rfl) rfl rfl (by simp) (by kernel_rfl) ?_
  simp (maxSteps := 10000000) only [↓sx, sx, ↓ty, ↓reduceIte, Nat.reduceEqDiff, pc]
  refine loopK_of (fun s : Int × Int => [(0, .p (.val (.int .i64 p))), (1, .p (.val (.int .i64 q))), (4, .box 4 0), (5, .p (.val (.int .i64 s.1))), (6, .p (.val (.int .i64 s.2)))]) (fun _ => [(4, (114, [.val (.string ⟨#[]⟩), .val (.string ⟨#[]⟩)]))]) (fun _ => []) (fun s => s.1.natAbs < 4611686018427387904 ∧ s.2.natAbs < 4611686018427387904 ∧ s.1.natAbs.gcd s.2.natAbs = p.natAbs.gcd q) (fun s => s.2.natAbs) (p, (q : Int)) ⟨h1, by simpa using h2, by simp⟩ ?_ ?_
  · simp (maxSteps := 10000000) only [isE_nil, is_cons, bo_p, bo_box, any_cons', all_cons', all_nil', Bool.true_or, ↓sx, sx, ↓reduceIte, Nat.reduceEqDiff]
    exact ⟨rfl, rfl⟩
  · rintro ⟨a, b⟩ ⟨i1, i2, i3⟩
    dsimp only at i1 i2 i3
    simp (maxSteps := 10000000) only [↓sx, sx, ↓reduceIte, Nat.reduceEqDiff, ls]
    refine vcIf_b (fun hb => ?_) (fun hb => ?_)
    · have hb : b ≠ 0 := by simpa using hb
      have hm := tmod_natAbs a b
      have hlt : (a.tmod b).natAbs < b.natAbs := by rw [hm]; exact Nat.mod_lt _ (by omega)
      refine ⟨hb, NextK.mk (b, a.tmod b) hlt ⟨i2, by show (a.tmod b).natAbs < _; omega, ?_⟩ ?_⟩
      · show b.natAbs.gcd (a.tmod b).natAbs = _
        rw [hm, Nat.gcd_comm, ← Nat.gcd_rec, Nat.gcd_comm, i3]
      · simp (maxSteps := 10000000) only [isE_nil, is_cons, bo_p, bo_box, any_cons', all_cons', all_nil', Bool.true_or, ↓sx, sx, ↓reduceIte, Nat.reduceEqDiff]
    · have hb : b = 0 := by simpa using hb
      subst hb
      rw [Int.natAbs_zero, Nat.gcd_zero_right] at i3
      generalize p.natAbs.gcd q = g at *
      have e1 : (if IntKind.i64.wrap (0 - a) > a then IntKind.i64.wrap (0 - a) else a) = (g : Int) := by
        rw [i64_id (by omega) (by omega)]
        split <;> omega
      simp (maxSteps := 10000000) only [Int.reduceBNe, e1]
      have hgi : ¬ (g : Int) = 0 := by omega
      refine ⟨hgi, ?_⟩
      have q1 : p.tdiv g = p / g := tdiv_dvd hdv
      have q2 : (q : Int).tdiv g = ((q / g : Nat) : Int) := by rw [Int.ofNat_tdiv]
      have b1 : (p / (g : Int)).natAbs ≤ p.natAbs := by rw [Int.natAbs_ediv_of_dvd (Int.ofNat_dvd_left.2 hdv)]; exact Nat.div_le_self _ _
      have b2 : q / g ≤ q := Nat.div_le_self _ _
      rw [q1, i64_id (x := p / (g : Int)) (by omega) (by omega)]
      refine CallT.mk (formatI_n (p / (g : Int)) (by omega) (by omega)) ?_
      simp (maxSteps := 10000000) only [↓sx, sx, ↓reduceIte, Nat.reduceEqDiff, e1]
      refine ⟨hgi, ?_⟩
      rw [q2, i64_id (x := ((q / g : Nat) : Int)) (by omega) (by omega)]
      refine CallT.mk (formatI_n ((q / g : Nat) : Int) (by omega) (by omega)) ?_
      simp (maxSteps := 10000000) only [↓sx, sx, ↓ty, ↓reduceIte, Nat.reduceEqDiff, Nat.reduceAdd, Nat.reduceLeDiff, pc, ls, bs, and_self, Nat.reduceAdd, Nat.le_refl, pd]
      rw [x1, x2, iD_nat]
theorem scale_lt {a b : Int} {k m : Nat} (ha : a.natAbs < k) (hb : b.natAbs < m) (hk : 0 < k) : (a * b).natAbs < k * m := by
  rw [Int.natAbs_mul]
  have h1 : a.natAbs * b.natAbs ≤ a.natAbs * m := Nat.mul_le_mul_left _ (by omega)
  have h2 : a.natAbs * m < k * m := Nat.mul_lt_mul_of_pos_right ha (by omega)
  omega
set_option maxRecDepth 100000 in
set_option maxHeartbeats 4000000 in
theorem fplus_n (x y : Rat) (hx : Sz 20000 x) (hy : Sz 20000 y) : Meets Tryz.prog Gd 171 [frP x, frP y] (frP (x + y)) := by
  have a1 := hx.1
  have a2 := hx.2
  have a3 := hy.1
  have a4 := hy.2
  have b4 := Lw_mul x.den y.den
  have b5 := Lw_iadd (x.num * y.den) (y.num * x.den)
  have b6 := Lw_imul x.num y.den
  have b7 := Lw_imul y.num x.den
  rw [Int.natAbs_natCast] at b6 b7
  have hd0 := Nat.mul_ne_zero x.den_nz y.den_nz
  refine meets_of_vc (Y := {}) (N := 77) (rs := [.cell 4 114]) mix tk gd Tryz.func171 rfl (by kernel_rfl) rfl rfl (by simp) (by kernel_rfl) ?_
  simp (maxSteps := 10000000) only [↓sx, sx, ↓ty, ↓reduceIte, Nat.reduceEqDiff, Nat.reduceAdd, ls, Nat.reduceAdd, Nat.le_refl, pd]
  by_cases hb : shortQ x = true ∧ shortQ y = true
  · have s1 := shortQ_spec hb.1
    have s2 := shortQ_spec hb.2
    refine CallT.mk (flittle_s x hb.1) ?_
    simp (maxSteps := 10000000) only [↓sx, sx, ↓ty, ↓reduceIte, Nat.reduceEqDiff, Nat.reduceAdd, pc, ls, Nat.reduceAdd, Nat.le_refl]
    refine CallT.mk (flittle_s y hb.2) ?_
    simp (maxSteps := 10000000) only [↓sx, sx, ↓reduceIte, Nat.reduceEqDiff, Nat.reduceLT, pc]
    have m1 := scale_lt (a := x.num) (b := y.den) (k := 1000000000) (m := 1000000000) (by omega) (by omega) (by omega)
    have m2 := scale_lt (a := y.num) (b := x.den) (k := 1000000000) (m := 1000000000) (by omega) (by omega) (by omega)
    have m3 := scale_lt (a := x.den) (b := y.den) (k := 1000000000) (m := 1000000000) (by omega) (by omega) (by omega)
    have m4 : (x.den : Int) * y.den = ((x.den * y.den : Nat) : Int) := by rw [Int.natCast_mul]
    obtain ⟨D, hD⟩ : ∃ D, D = x.den * y.den := ⟨_, rfl⟩
    have hD0 : D ≠ 0 := by rw [hD]; exact hd0
    obtain ⟨X, hX⟩ : ∃ X, X = x.num * (y.den : Int) := ⟨_, rfl⟩
    obtain ⟨Y, hY⟩ : ∃ Y, Y = y.num * (x.den : Int) := ⟨_, rfl⟩
    have hdef : Rat.normalize (X + Y) D hD0 = x + y := by subst hD hX hY; exact (Rat.add_def x y).symm
    rw [m4, ← hD] at m3 ⊢
    rw [← hX] at m1 ⊢
    rw [← hY] at m2 ⊢
    clear hD hX hY m4 b4 b5 b6 b7 hd0
    rw [i64_id (x := X) (by omega) (by omega), i64_id (x := Y) (by omega) (by omega), i64_id (x := X + Y) (by omega) (by omega), i64_id (x := (D : Int)) (by omega) (by omega)]
    refine CallT.mk (fof_n (X + Y) D (x + y) hD0 (by omega) (by omega) hdef) ?_
    simp (maxSteps := 10000000) only [↓sx, sx, ↓ty, ↓reduceIte, Nat.reduceEqDiff, Nat.reduceAdd, ls, bs, and_self, Nat.reduceAdd, Nat.le_refl, pd]
  · cases hsx : shortQ x with
    | false =>
      refine CallT.mk (flittle_l x hsx) ?_
      simp (maxSteps := 10000000) only [↓sx, sx, ↓ty, ↓reduceIte, Nat.reduceEqDiff, Nat.reduceAdd, pc, ls, Nat.reduceAdd, Nat.le_refl]
      cases hsy : shortQ y with
      | false =>
        refine CallT.mk (flittle_l y hsy) ?_
        simp (maxSteps := 10000000) only [↓sx, sx, ↓ty, ↓reduceIte, Nat.reduceEqDiff, Nat.reduceAdd, Nat.reduceLT, ne_eq, not_false_eq_true, pc, ls, Nat.reduceAdd]
        refine CallT.to (imul_n x.num (y.den : Int) (by omega) (by rw [Int.natAbs_natCast]; omega)) (by rw [siP_nat]; rfl) ?_
        simp (maxSteps := 10000000) only [↓sx, sx, ↓ty, ↓reduceIte, Nat.reduceEqDiff, Nat.reduceAdd, ne_eq, not_false_eq_true, pc, ls, Nat.reduceAdd]
        refine CallT.to (imul_n y.num (x.den : Int) (by omega) (by rw [Int.natAbs_natCast]; omega)) (by rw [siP_nat]; rfl) ?_
        simp (maxSteps := 10000000) only [↓sx, sx, ↓reduceIte, Nat.reduceEqDiff, pc]
        refine CallT.mk (iadd_n (x.num * y.den) (y.num * x.den) (by omega) (by omega)) ?_
        simp (maxSteps := 10000000) only [↓sx, sx, ↓ty, ↓reduceIte, Nat.reduceEqDiff, Nat.reduceAdd, ne_eq, not_false_eq_true, pc, ls, Nat.reduceAdd]
        refine CallT.mk (nmul_n x.den y.den (by omega) (by omega)) ?_
        simp (maxSteps := 10000000) only [↓sx, sx, ↓reduceIte, Nat.reduceEqDiff, pc]
        refine CallT.mk (lowestp_n (x.num * y.den + y.num * x.den) (x.den * y.den) (x + y) hd0 (by omega) (by omega) (Rat.add_def x y).symm) ?_
        simp (maxSteps := 10000000) only [↓sx, sx, ↓ty, ↓reduceIte, Nat.reduceEqDiff, Nat.reduceAdd, ls, bs, and_self, Nat.reduceAdd, Nat.le_refl, pd]
      | true =>
        refine CallT.mk (flittle_s y hsy) ?_
        simp (maxSteps := 10000000) only [↓sx, sx, ↓ty, ↓reduceIte, Nat.reduceEqDiff, Nat.reduceAdd, Nat.reduceLT, ne_eq, not_false_eq_true, pc, ls, Nat.reduceAdd]
        refine CallT.to (imul_n x.num (y.den : Int) (by omega) (by rw [Int.natAbs_natCast]; omega)) (by rw [siP_nat]; rfl) ?_
        simp (maxSteps := 10000000) only [↓sx, sx, ↓ty, ↓reduceIte, Nat.reduceEqDiff, Nat.reduceAdd, ne_eq, not_false_eq_true, pc, ls, Nat.reduceAdd]
        refine CallT.to (imul_n y.num (x.den : Int) (by omega) (by rw [Int.natAbs_natCast]; omega)) (by rw [siP_nat]; rfl) ?_
        simp (maxSteps := 10000000) only [↓sx, sx, ↓reduceIte, Nat.reduceEqDiff, pc]
        refine CallT.mk (iadd_n (x.num * y.den) (y.num * x.den) (by omega) (by omega)) ?_
        simp (maxSteps := 10000000) only [↓sx, sx, ↓ty, ↓reduceIte, Nat.reduceEqDiff, Nat.reduceAdd, ne_eq, not_false_eq_true, pc, ls, Nat.reduceAdd]
        refine CallT.mk (nmul_n x.den y.den (by omega) (by omega)) ?_
        simp (maxSteps := 10000000) only [↓sx, sx, ↓reduceIte, Nat.reduceEqDiff, pc]
        refine CallT.mk (lowestp_n (x.num * y.den + y.num * x.den) (x.den * y.den) (x + y) hd0 (by omega) (by omega) (Rat.add_def x y).symm) ?_
        simp (maxSteps := 10000000) only [↓sx, sx, ↓ty, ↓reduceIte, Nat.reduceEqDiff, Nat.reduceAdd, ls, bs, and_self, Nat.reduceAdd, Nat.le_refl, pd]
    | true =>
      refine CallT.mk (flittle_s x hsx) ?_
      simp (maxSteps := 10000000) only [↓sx, sx, ↓ty, ↓reduceIte, Nat.reduceEqDiff, Nat.reduceAdd, pc, ls, Nat.reduceAdd, Nat.le_refl]
      have hsy : shortQ y = false := by cases h : shortQ y with | false => rfl | true => exact absurd ⟨hsx, h⟩ hb
      refine CallT.mk (flittle_l y hsy) ?_
      simp (maxSteps := 10000000) only [↓sx, sx, ↓ty, ↓reduceIte, Nat.reduceEqDiff, Nat.reduceAdd, Nat.reduceLT, ne_eq, not_false_eq_true, pc, ls, Nat.reduceAdd]
      refine CallT.to (imul_n x.num (y.den : Int) (by omega) (by rw [Int.natAbs_natCast]; omega)) (by rw [siP_nat]; rfl) ?_
      simp (maxSteps := 10000000) only [↓sx, sx, ↓ty, ↓reduceIte, Nat.reduceEqDiff, Nat.reduceAdd, ne_eq, not_false_eq_true, pc, ls, Nat.reduceAdd]
      refine CallT.to (imul_n y.num (x.den : Int) (by omega) (by rw [Int.natAbs_natCast]; omega)) (by rw [siP_nat]; rfl) ?_
      simp (maxSteps := 10000000) only [↓sx, sx, ↓reduceIte, Nat.reduceEqDiff, pc]
      refine CallT.mk (iadd_n (x.num * y.den) (y.num * x.den) (by omega) (by omega)) ?_
      simp (maxSteps := 10000000) only [↓sx, sx, ↓ty, ↓reduceIte, Nat.reduceEqDiff, Nat.reduceAdd, ne_eq, not_false_eq_true, pc, ls, Nat.reduceAdd]
      refine CallT.mk (nmul_n x.den y.den (by omega) (by omega)) ?_
      simp (maxSteps := 10000000) only [↓sx, sx, ↓reduceIte, Nat.reduceEqDiff, pc]
      refine CallT.mk (lowestp_n (x.num * y.den + y.num * x.den) (x.den * y.den) (x + y) hd0 (by omega) (by omega) (Rat.add_def x y).symm) ?_
      simp (maxSteps := 10000000) only [↓sx, sx, ↓ty, ↓reduceIte, Nat.reduceEqDiff, Nat.reduceAdd, ls, bs, and_self, Nat.reduceAdd, Nat.le_refl, pd]
set_option maxRecDepth 100000 in
set_option maxHeartbeats 4000000 in
theorem ftimes_n (x y : Rat) (hx : Sz 20000 x) (hy : Sz 20000 y) : Meets Tryz.prog Gd 172 [frP x, frP y] (frP (x * y)) := by
  have a1 := hx.1
  have a2 := hx.2
  have a3 := hy.1
  have a4 := hy.2
  have b4 := Lw_mul x.den y.den
  have b6 := Lw_imul x.num y.num
  have hd0 := Nat.mul_ne_zero x.den_nz y.den_nz
  refine meets_of_vc (Y := {}) (N := 57) (rs := [.cell 4 114]) mix tk gd Tryz.func172 rfl (by kernel_rfl) rfl rfl (by simp) (by kernel_rfl) ?_
  simp (maxSteps := 10000000) only [↓sx, sx, ↓ty, ↓reduceIte, Nat.reduceEqDiff, Nat.reduceAdd, ls, Nat.reduceAdd, Nat.le_refl, pd]
  by_cases hb : shortQ x = true ∧ shortQ y = true
  · have s1 := shortQ_spec hb.1
    have s2 := shortQ_spec hb.2
    refine CallT.mk (flittle_s x hb.1) ?_
    simp (maxSteps := 10000000) only [↓sx, sx, ↓ty, ↓reduceIte, Nat.reduceEqDiff, Nat.reduceAdd, pc, ls, Nat.reduceAdd, Nat.le_refl]
    refine CallT.mk (flittle_s y hb.2) ?_
    simp (maxSteps := 10000000) only [↓sx, sx, ↓reduceIte, Nat.reduceEqDiff, Nat.reduceLT, pc]
    have m1 := scale_lt (a := x.num) (b := y.num) (k := 1000000000) (m := 1000000000) (by omega) (by omega) (by omega)
    have m3 := scale_lt (a := x.den) (b := y.den) (k := 1000000000) (m := 1000000000) (by omega) (by omega) (by omega)
    have m4 : (x.den : Int) * y.den = ((x.den * y.den : Nat) : Int) := by rw [Int.natCast_mul]
    obtain ⟨D, hD⟩ : ∃ D, D = x.den * y.den := ⟨_, rfl⟩
    have hD0 : D ≠ 0 := by rw [hD]; exact hd0
    obtain ⟨X, hX⟩ : ∃ X, X = x.num * y.num := ⟨_, rfl⟩
    have hdef : Rat.normalize X D hD0 = x * y := by subst hD hX; exact (Rat.mul_def x y).symm
    rw [m4, ← hD] at m3 ⊢
    rw [← hX] at m1 ⊢
    clear hD hX m4 b4 b6 hd0
    rw [i64_id (x := X) (by omega) (by omega), i64_id (x := (D : Int)) (by omega) (by omega)]
    refine CallT.mk (fof_n X D (x * y) hD0 (by omega) (by omega) hdef) ?_
    simp (maxSteps := 10000000) only [↓sx, sx, ↓ty, ↓reduceIte, Nat.reduceEqDiff, Nat.reduceAdd, ls, bs, and_self, Nat.reduceAdd, Nat.le_refl, pd]
  · cases hsx : shortQ x with
    | false =>
      refine CallT.mk (flittle_l x hsx) ?_
      simp (maxSteps := 10000000) only [↓sx, sx, ↓ty, ↓reduceIte, Nat.reduceEqDiff, Nat.reduceAdd, pc, ls, Nat.reduceAdd, Nat.le_refl]
      cases hsy : shortQ y with
      | false =>
        refine CallT.mk (flittle_l y hsy) ?_
        simp (maxSteps := 10000000) only [↓sx, sx, ↓ty, ↓reduceIte, Nat.reduceEqDiff, Nat.reduceAdd, Nat.reduceLT, ne_eq, not_false_eq_true, pc, ls, Nat.reduceAdd]
        refine CallT.mk (imul_n x.num y.num (by omega) (by omega)) ?_
        simp (maxSteps := 10000000) only [↓sx, sx, ↓ty, ↓reduceIte, Nat.reduceEqDiff, Nat.reduceAdd, ne_eq, not_false_eq_true, pc, ls, Nat.reduceAdd]
        refine CallT.mk (nmul_n x.den y.den (by omega) (by omega)) ?_
        simp (maxSteps := 10000000) only [↓sx, sx, ↓reduceIte, Nat.reduceEqDiff, pc]
        refine CallT.mk (lowestp_n (x.num * y.num) (x.den * y.den) (x * y) hd0 (by omega) (by omega) (Rat.mul_def x y).symm) ?_
        simp (maxSteps := 10000000) only [↓sx, sx, ↓ty, ↓reduceIte, Nat.reduceEqDiff, Nat.reduceAdd, ls, bs, and_self, Nat.reduceAdd, Nat.le_refl, pd]
      | true =>
        refine CallT.mk (flittle_s y hsy) ?_
        simp (maxSteps := 10000000) only [↓sx, sx, ↓ty, ↓reduceIte, Nat.reduceEqDiff, Nat.reduceAdd, Nat.reduceLT, ne_eq, not_false_eq_true, pc, ls, Nat.reduceAdd]
        refine CallT.mk (imul_n x.num y.num (by omega) (by omega)) ?_
        simp (maxSteps := 10000000) only [↓sx, sx, ↓ty, ↓reduceIte, Nat.reduceEqDiff, Nat.reduceAdd, ne_eq, not_false_eq_true, pc, ls, Nat.reduceAdd]
        refine CallT.mk (nmul_n x.den y.den (by omega) (by omega)) ?_
        simp (maxSteps := 10000000) only [↓sx, sx, ↓reduceIte, Nat.reduceEqDiff, pc]
        refine CallT.mk (lowestp_n (x.num * y.num) (x.den * y.den) (x * y) hd0 (by omega) (by omega) (Rat.mul_def x y).symm) ?_
        simp (maxSteps := 10000000) only [↓sx, sx, ↓ty, ↓reduceIte, Nat.reduceEqDiff, Nat.reduceAdd, ls, bs, and_self, Nat.reduceAdd, Nat.le_refl, pd]
    | true =>
      refine CallT.mk (flittle_s x hsx) ?_
      simp (maxSteps := 10000000) only [↓sx, sx, ↓ty, ↓reduceIte, Nat.reduceEqDiff, Nat.reduceAdd, pc, ls, Nat.reduceAdd, Nat.le_refl]
      have hsy : shortQ y = false := by cases h : shortQ y with | false => rfl | true => exact absurd ⟨hsx, h⟩ hb
      refine CallT.mk (flittle_l y hsy) ?_
      simp (maxSteps := 10000000) only [↓sx, sx, ↓ty, ↓reduceIte, Nat.reduceEqDiff, Nat.reduceAdd, Nat.reduceLT, ne_eq, not_false_eq_true, pc, ls, Nat.reduceAdd]
      refine CallT.mk (imul_n x.num y.num (by omega) (by omega)) ?_
      simp (maxSteps := 10000000) only [↓sx, sx, ↓ty, ↓reduceIte, Nat.reduceEqDiff, Nat.reduceAdd, ne_eq, not_false_eq_true, pc, ls, Nat.reduceAdd]
      refine CallT.mk (nmul_n x.den y.den (by omega) (by omega)) ?_
      simp (maxSteps := 10000000) only [↓sx, sx, ↓reduceIte, Nat.reduceEqDiff, pc]
      refine CallT.mk (lowestp_n (x.num * y.num) (x.den * y.den) (x * y) hd0 (by omega) (by omega) (Rat.mul_def x y).symm) ?_
      simp (maxSteps := 10000000) only [↓sx, sx, ↓ty, ↓reduceIte, Nat.reduceEqDiff, Nat.reduceAdd, ls, bs, and_self, Nat.reduceAdd, Nat.le_refl, pd]
set_option maxRecDepth 100000 in
theorem fminus_n (x y : Rat) (hx : Sz 20000 x) (hy : Sz 20000 y) : Meets Tryz.prog Gd 173 [frP x, frP y] (frP (x - y)) := by
  refine meets_of_vc (Y := {}) (N := 9) (rs := [.cell 4 114]) mix tk gd Tryz.func173 rfl (by kernel_rfl) rfl rfl (by simp) (by kernel_rfl) ?_
  simp (maxSteps := 10000000) only [↓sx, sx, ↓ty, ↓reduceIte, Nat.reduceEqDiff, Nat.reduceAdd, ls, Nat.reduceAdd, Nat.le_refl, pd]
  refine CallT.mk (fopp_n y (hy.mono (by omega))) ?_
  simp (maxSteps := 10000000) only [↓sx, sx, ↓reduceIte, Nat.reduceEqDiff, pd]
  refine CallT.mk (fplus_n x (-y) hx hy.neg) ?_
  simp (maxSteps := 10000000) only [↓sx, sx, ↓ty, ↓reduceIte, Nat.reduceEqDiff, Nat.reduceAdd, ls, bs, and_self, Nat.reduceAdd, Nat.le_refl, pd]
  rw [Rat.sub_eq_add_neg]
set_option maxRecDepth 100000 in
theorem fdiv_n (x y : Rat) (hx : Sz 20000 x) (hy : Sz 20000 y) (h0 : y ≠ 0) : Meets Tryz.prog Gd 175 [frP x, frP y] (frP (x / y)) := by
  refine meets_of_vc (Y := {}) (N := 9) (rs := [.cell 4 114]) mix tk gd Tryz.func175 rfl (by kernel_rfl) rfl rfl (by simp) (by kernel_rfl) ?_
  simp (maxSteps := 10000000) only [↓sx, sx, ↓ty, ↓reduceIte, Nat.reduceEqDiff, Nat.reduceAdd, ls, Nat.reduceAdd, Nat.le_refl, pd]
  refine CallT.mk (finv_n y (hy.mono (by omega)) h0) ?_
  simp (maxSteps := 10000000) only [↓sx, sx, ↓reduceIte, Nat.reduceEqDiff, pd]
  refine CallT.mk (ftimes_n x y⁻¹ hx (hy.inv (by omega))) ?_
  simp (maxSteps := 10000000) only [↓sx, sx, ↓ty, ↓reduceIte, Nat.reduceEqDiff, Nat.reduceAdd, ls, bs, and_self, Nat.reduceAdd, Nat.le_refl, pd]
  rw [Rat.div_def]
end Go.Proofs.YtnlabeglboomlaaGreatDoor.S
namespace Gb
open Go Go.Sx
theorem fr_of {l : List UInt8} (h : isRat l = true) : frP (ratOf l) = .agg [strP (splitM l).1, strP (splitM l).2.1] := by
  obtain ⟨h1, h2, _⟩ := isRat_spec h
  obtain ⟨e1, e2⟩ := ratOf_spec h
  unfold frP siP dP
  rw [e1, e2, iD_intOf h1, dec_natOf h2]
theorem Sz.of {l : List UInt8} {k : Nat} (h : isRat l = true) (hk : l.length ≤ 9 * k) : Sz (k + 1) (ratOf l) := (Sz.text h).mono (by omega)
def fr0 : PV := .agg [.val (.string ⟨#[]⟩), .val (.string ⟨#[]⟩)]
end Gb
namespace Go.Proofs.YtnlabeglboomlaaGreatDoor.S
open Go Go.Sx Go.RowKit Gb Go.Shelf
set_option maxRecDepth 100000 in
theorem both_ok (a b : List UInt8) (ha : a.length < 90000) (hb : b.length < 90000) (h1 : isRat a = true) (h2 : isRat b = true) : Meets Tryz.prog Gd 120 [strP a, strP b] (.tup [frP (ratOf a), frP (ratOf b), iP 0]) := by
  refine meets_of_vc (Y := { ex := [5] }) (N := 31) (rs := [.cell 4 114, .cell 5 114, .tmp 6]) mix tk gd Tryz.func120 rfl (by kernel_rfl) rfl rfl (by simp) (by kernel_rfl) ?_
  simp (maxSteps := 10000000) only [↓sx, sx, ↓ty, ↓reduceIte, Nat.reduceEqDiff, pc]
  refine CallT.mk (fread_n a (by omega)) ?_
  rw [h1, ← fr_of h1]
  simp (maxSteps := 10000000) only [↓sx, sx, ↓ty, ↓reduceIte, Nat.reduceEqDiff, Nat.reduceAdd, pc, ls, bs, and_self, Nat.reduceAdd, Nat.le_refl, pd]
  refine CallT.mk (fread_n b (by omega)) ?_
  rw [h2, ← fr_of h2]
  simp (maxSteps := 10000000) only [↓sx, sx, ↓ty, ↓reduceIte, Nat.reduceEqDiff, Nat.reduceAdd, Nat.reduceLT, pc, ls, bs, and_self, Nat.reduceAdd, Nat.le_refl, pd]
  first | exact ⟨by kernel_rfl, rfl⟩ | kernel_rfl
set_option maxRecDepth 100000 in
theorem both_no (a b : List UInt8) (ha : a.length < 90000) (hb : b.length < 90000) (h : (isRat a && isRat b) = false) : Meets Tryz.prog Gd 120 [strP a, strP b] (.tup [fr0, fr0, iP 1]) := by
  refine meets_of_vc (Y := { ex := [5] }) (N := 31) (rs := [.cell 4 114, .cell 5 114, .tmp 6]) mix tk gd Tryz.func120 rfl (by kernel_rfl) rfl rfl (by simp) (by kernel_rfl) ?_
  simp (maxSteps := 10000000) only [↓sx, sx, ↓ty, ↓reduceIte, Nat.reduceEqDiff, pc]
  refine CallT.mk (fread_n a (by omega)) ?_
  simp (maxSteps := 10000000) only [↓sx, sx, ↓ty, ↓reduceIte, Nat.reduceEqDiff, Nat.reduceAdd, pc, ls, bs, and_self, Nat.reduceAdd, Nat.le_refl]
  refine CallT.mk (fread_n b (by omega)) ?_
  cases h1 : isRat a with
  | false =>
    simp (maxSteps := 10000000) only [↓sx, sx, ↓ty, ↓reduceIte, Nat.reduceEqDiff, Nat.reduceAdd, Nat.reduceLT, pc, ls, bs, and_self, Nat.reduceAdd, Nat.le_refl]
    rfl
  | true =>
    rw [h1, Bool.true_and] at h
    rw [h]
    simp (maxSteps := 10000000) only [↓sx, sx, ↓ty, ↓reduceIte, Nat.reduceEqDiff, Nat.reduceAdd, Nat.reduceLT, pc, ls, bs, and_self, Nat.reduceAdd, Nat.le_refl]
    rfl
set_option maxRecDepth 100000 in
set_option maxHeartbeats 4000000 in
theorem apply_ok (op : Int) (g : FuncId) (a b : List UInt8) (r : Rat) (ha : a.length < 90000) (hb : b.length < 90000) (h1 : isRat a = true) (h2 : isRat b = true) (hg : mpGet opsL op = some g) (hm : Meets Tryz.prog Gd g [frP (ratOf a), frP (ratOf b)] (frP r)) (hz : op ≠ 47 ∨ ratOf b ≠ 0) (hr : Sz 50000 r) :
    Meets Tryz.prog Gd 114 [.val (.int .u8 op), strP a, strP b] (.tup [rtP r, iP 0]) := by
  refine meets_of_vc (Y := {}) (N := 37) (rs := [.tmp 6, .tmp 7]) mix tk gd Tryz.func114 rfl (by kernel_rfl) rfl rfl (by simp) (by kernel_rfl) ?_
  simp (maxSteps := 10000000) only [↓sx, sx, ↓reduceIte, Nat.reduceEqDiff, pc]
  refine CallT.mk (both_ok a b ha hb h1 h2) ?_
  by_cases h47 : op = 47
  · subst h47
    have hb0 : ((ratOf b).num = 0) = False := by simp; simpa using hz
    simp (maxSteps := 10000000) only [↓sx, sx, ↓ty, ↓reduceIte, Nat.reduceEqDiff, Nat.reduceAdd, Nat.reduceLT, Int.reduceBNe, Int.reduceBEq, ne_eq, not_false_eq_true, pc, ls, bs, and_self, Nat.reduceAdd, Nat.le_refl, pd, iD_eq0, hb0, decide_false]
    refine CallT.mk (t := ⟨⟩) all_n ?_
    simp (maxSteps := 10000000) only [↓sx, sx, ↓ty, ↓reduceIte, Nat.reduceEqDiff, Nat.reduceAdd, ls, Nat.reduceAdd, Nat.le_refl, hg]
    refine CallT.mk hm ?_
    simp (maxSteps := 10000000) only [↓sx, sx, ↓reduceIte, pd]
    refine CallT.mk (ftext_n r hr) ?_
    simp (maxSteps := 10000000) only [↓sx, sx, ↓reduceIte, Nat.reduceEqDiff, pc]
  · have e1 : (op == 47) = false := by simpa using h47
    simp (maxSteps := 10000000) only [↓sx, sx, ↓ty, ↓reduceIte, Nat.reduceEqDiff, Nat.reduceAdd, Nat.reduceLT, Int.reduceBNe, pc, ls, bs, and_self, Nat.reduceAdd, Nat.le_refl, pd, e1]
    refine CallT.mk (t := ⟨⟩) all_n ?_
    simp (maxSteps := 10000000) only [↓sx, sx, ↓ty, ↓reduceIte, Nat.reduceEqDiff, Nat.reduceAdd, ls, Nat.reduceAdd, Nat.le_refl, hg]
    refine CallT.mk hm ?_
    simp (maxSteps := 10000000) only [↓sx, sx, ↓reduceIte, pd]
    refine CallT.mk (ftext_n r hr) ?_
    simp (maxSteps := 10000000) only [↓sx, sx, ↓reduceIte, Nat.reduceEqDiff, pc]
set_option maxRecDepth 100000 in
set_option maxHeartbeats 4000000 in
theorem apply_no (op : Int) (a b : List UInt8) (ha : a.length < 90000) (hb : b.length < 90000) (h : (isRat a && isRat b) = false) :
    Meets Tryz.prog Gd 114 [.val (.int .u8 op), strP a, strP b] (.tup [strP [], iP 1]) := by
  refine meets_of_vc (Y := {}) (N := 37) (rs := [.tmp 6, .tmp 7]) mix tk gd Tryz.func114 rfl (by kernel_rfl) rfl rfl (by simp) (by kernel_rfl) ?_
  simp (maxSteps := 10000000) only [↓sx, sx, ↓reduceIte, Nat.reduceEqDiff, pc]
  refine CallT.mk (both_no a b ha hb h) ?_
  simp (maxSteps := 10000000) only [↓sx, sx, ↓ty, ↓reduceIte, Nat.reduceEqDiff, Nat.reduceAdd, Int.reduceBNe, pc, ls, bs, and_self, Nat.reduceAdd, Nat.le_refl, fr0]
set_option maxRecDepth 100000 in
set_option maxHeartbeats 4000000 in
theorem apply_zero (a b : List UInt8) (ha : a.length < 90000) (hb : b.length < 90000) (h1 : isRat a = true) (h2 : isRat b = true) (hz : ratOf b = 0) :
    Meets Tryz.prog Gd 114 [.val (.int .u8 47), strP a, strP b] (.tup [strP [], iP 16]) := by
  refine meets_of_vc (Y := {}) (N := 37) (rs := [.tmp 6, .tmp 7]) mix tk gd Tryz.func114 rfl (by kernel_rfl) rfl rfl (by simp) (by kernel_rfl) ?_
  simp (maxSteps := 10000000) only [↓sx, sx, ↓reduceIte, Nat.reduceEqDiff, pc]
  refine CallT.mk (both_ok a b ha hb h1 h2) ?_
  rw [hz]
  have e0 : (Rat.num 0 = 0) = True := by simp
  simp (maxSteps := 10000000) only [↓sx, sx, ↓ty, ↓reduceIte, Nat.reduceEqDiff, Nat.reduceAdd, Nat.reduceLT, Int.reduceBNe, Int.reduceBEq, ne_eq, not_false_eq_true, pc, ls, bs, and_self, Nat.reduceAdd, Nat.le_refl, pd, iD_eq0, e0, decide_true]
end Go.Proofs.YtnlabeglboomlaaGreatDoor.S
namespace Gb
open Go Go.Sx
def ropP (f : Rat → Rat → Rat) (a b : List UInt8) : PV := if isRat a && isRat b then .tup [rtP (f (ratOf a) (ratOf b)), iP 0] else .tup [strP [], iP 1]
def rdivP (a b : List UInt8) : PV := if isRat a && isRat b then (if ratOf b = 0 then .tup [strP [], iP 16] else .tup [rtP (ratOf a / ratOf b), iP 0]) else .tup [strP [], iP 1]
def rcmpP (a b : List UInt8) : PV := if isRat a && isRat b then .tup [iP (ratOf a - ratOf b).num.sign, iP 0] else .tup [iP 0, iP 1]
theorem and_split {a b : Bool} (h : (a && b) = true) : a = true ∧ b = true := by simpa using h
theorem sz_ok {l : List UInt8} (h : isRat l = true) (hl : l.length < 90000) : Sz 10001 (ratOf l) := Sz.of h (by omega)
end Gb
namespace Go.Proofs.YtnlabeglboomlaaGreatDoor.S
open Go Go.Sx Go.RowKit Gb Go.Shelf
set_option maxRecDepth 100000 in
theorem radd_n (a b : List UInt8) (ha : a.length < 90000) (hb : b.length < 90000) : Meets Tryz.prog Gd 82 [strP a, strP b] (ropP (· + ·) a b) := by
  refine meets_of_vc (Y := {}) (N := 11) (rs := [.tmp 4, .tmp 5]) mix tk gd Tryz.func82 rfl (by kernel_rfl) rfl rfl (by simp) (by kernel_rfl) ?_
  unfold ropP
  cases h : (isRat a && isRat b) with
  | true =>
    obtain ⟨h1, h2⟩ := and_split h
    have s1 := sz_ok h1 ha
    have s2 := sz_ok h2 hb
    simp (maxSteps := 10000000) only [↓sx, sx, ↓reduceIte, Nat.reduceEqDiff, pc]
    refine CallT.mk (apply_ok 43 _ a b (ratOf a + ratOf b) ha hb h1 h2 rfl (fplus_n _ _ (s1.mono (by omega)) (s2.mono (by omega))) (.inl (by decide)) ((s1.add s2).mono (by omega))) ?_
    simp (maxSteps := 10000000) only [↓sx, sx, ↓reduceIte, Nat.reduceEqDiff, pc]
  | false =>
    simp (maxSteps := 10000000) only [↓sx, sx, ↓reduceIte, Nat.reduceEqDiff, pc]
    refine CallT.mk (apply_no 43 a b ha hb h) ?_
    simp (maxSteps := 10000000) only [↓sx, sx, ↓reduceIte, Nat.reduceEqDiff, pc]
set_option maxRecDepth 100000 in
theorem rmul_n (a b : List UInt8) (ha : a.length < 90000) (hb : b.length < 90000) : Meets Tryz.prog Gd 93 [strP a, strP b] (ropP (· * ·) a b) := by
  refine meets_of_vc (Y := {}) (N := 11) (rs := [.tmp 4, .tmp 5]) mix tk gd Tryz.func93 rfl (by kernel_rfl) rfl rfl (by simp) (by kernel_rfl) ?_
  unfold ropP
  cases h : (isRat a && isRat b) with
  | true =>
    obtain ⟨h1, h2⟩ := and_split h
    have s1 := sz_ok h1 ha
    have s2 := sz_ok h2 hb
    simp (maxSteps := 10000000) only [↓sx, sx, ↓reduceIte, Nat.reduceEqDiff, pc]
    refine CallT.mk (apply_ok 42 _ a b (ratOf a * ratOf b) ha hb h1 h2 rfl (ftimes_n _ _ (s1.mono (by omega)) (s2.mono (by omega))) (.inl (by decide)) ((s1.mul s2).mono (by omega))) ?_
    simp (maxSteps := 10000000) only [↓sx, sx, ↓reduceIte, Nat.reduceEqDiff, pc]
  | false =>
    simp (maxSteps := 10000000) only [↓sx, sx, ↓reduceIte, Nat.reduceEqDiff, pc]
    refine CallT.mk (apply_no 42 a b ha hb h) ?_
    simp (maxSteps := 10000000) only [↓sx, sx, ↓reduceIte, Nat.reduceEqDiff, pc]
set_option maxRecDepth 100000 in
theorem rsub_n (a b : List UInt8) (ha : a.length < 90000) (hb : b.length < 90000) : Meets Tryz.prog Gd 94 [strP a, strP b] (ropP (· - ·) a b) := by
  refine meets_of_vc (Y := {}) (N := 11) (rs := [.tmp 4, .tmp 5]) mix tk gd Tryz.func94 rfl (by kernel_rfl) rfl rfl (by simp) (by kernel_rfl) ?_
  unfold ropP
  cases h : (isRat a && isRat b) with
  | true =>
    obtain ⟨h1, h2⟩ := and_split h
    have s1 := sz_ok h1 ha
    have s2 := sz_ok h2 hb
    simp (maxSteps := 10000000) only [↓sx, sx, ↓reduceIte, Nat.reduceEqDiff, pc]
    refine CallT.mk (apply_ok 45 _ a b (ratOf a - ratOf b) ha hb h1 h2 rfl (fminus_n _ _ (s1.mono (by omega)) (s2.mono (by omega))) (.inl (by decide)) ((s1.sub s2).mono (by omega))) ?_
    simp (maxSteps := 10000000) only [↓sx, sx, ↓reduceIte, Nat.reduceEqDiff, pc]
  | false =>
    simp (maxSteps := 10000000) only [↓sx, sx, ↓reduceIte, Nat.reduceEqDiff, pc]
    refine CallT.mk (apply_no 45 a b ha hb h) ?_
    simp (maxSteps := 10000000) only [↓sx, sx, ↓reduceIte, Nat.reduceEqDiff, pc]
set_option maxRecDepth 100000 in
theorem rdiv_n (a b : List UInt8) (ha : a.length < 90000) (hb : b.length < 90000) : Meets Tryz.prog Gd 89 [strP a, strP b] (rdivP a b) := by
  refine meets_of_vc (Y := {}) (N := 11) (rs := [.tmp 4, .tmp 5]) mix tk gd Tryz.func89 rfl (by kernel_rfl) rfl rfl (by simp) (by kernel_rfl) ?_
  unfold rdivP
  cases h : (isRat a && isRat b) with
  | true =>
    obtain ⟨h1, h2⟩ := and_split h
    have s1 := sz_ok h1 ha
    have s2 := sz_ok h2 hb
    by_cases hz : ratOf b = 0
    · rw [if_pos hz]
      simp (maxSteps := 10000000) only [↓sx, sx, ↓reduceIte, Nat.reduceEqDiff, pc]
      refine CallT.mk (apply_zero a b ha hb h1 h2 hz) ?_
      simp (maxSteps := 10000000) only [↓sx, sx, ↓reduceIte, Nat.reduceEqDiff, pc]
    · rw [if_neg hz]
      simp (maxSteps := 10000000) only [↓sx, sx, ↓reduceIte, Nat.reduceEqDiff, pc]
      refine CallT.mk (apply_ok 47 _ a b (ratOf a / ratOf b) ha hb h1 h2 rfl (fdiv_n _ _ (s1.mono (by omega)) (s2.mono (by omega)) hz) (.inr hz) ((s1.div s2 (by omega)).mono (by omega))) ?_
      simp (maxSteps := 10000000) only [↓sx, sx, ↓reduceIte, Nat.reduceEqDiff, pc]
  | false =>
    simp (maxSteps := 10000000) only [↓sx, sx, ↓reduceIte, Nat.reduceEqDiff, pc]
    refine CallT.mk (apply_no 47 a b ha hb h) ?_
    simp (maxSteps := 10000000) only [↓sx, sx, ↓reduceIte, Nat.reduceEqDiff, pc]
set_option maxRecDepth 100000 in
theorem rvalid_n (l : List UInt8) (hl : l.length < 300000) : Meets Tryz.prog Gd 49 [strP l] (.val (.bool (isRat l))) := by
  refine meets_of_vc (Y := {}) (N := 11) (rs := [.tmp 2]) mix tk gd Tryz.func49 rfl (by kernel_rfl) rfl rfl (by simp) (by kernel_rfl) ?_
  simp (maxSteps := 10000000) only [↓sx, sx, ↓reduceIte, Nat.reduceEqDiff, pc]
  refine CallT.mk (fread_n l hl) ?_
  simp (maxSteps := 10000000) only [↓sx, sx, ↓ty, ↓reduceIte, Nat.reduceEqDiff, Nat.reduceAdd, pc, ls, bs, and_self, Nat.reduceAdd, Nat.le_refl]
end Go.Proofs.YtnlabeglboomlaaGreatDoor.S
namespace Gb
open Go Go.Sx
theorem sub_self_sign (x : Rat) : (x - x).num.sign = 0 := by rw [Rat.sub_self]; rfl
theorem cut_sign {s t : Int} (hs : s = -1 ∨ s = 0 ∨ s = 1) (ht : t = -1 ∨ t = 0 ∨ t = 1) (h : s ≠ t) :
    (if (if 1 < s - t then (1 : Int) else s - t) > -1 then (if 1 < s - t then (1 : Int) else s - t) else -1) = if s < t then -1 else 1 := by
  rcases hs with rfl | rfl | rfl <;> rcases ht with rfl | rfl | rfl <;> first | (exact absurd rfl h) | decide
theorem sign_3 (z : Int) : z.sign = -1 ∨ z.sign = 0 ∨ z.sign = 1 := by
  rcases Int.lt_trichotomy z 0 with h | h | h
  · exact .inl (Int.sign_eq_neg_one_of_neg h)
  · exact .inr (.inl (by rw [h]; rfl))
  · exact .inr (.inr (Int.sign_eq_one_of_pos h))
theorem sign_key (x y : Rat) : x.num.sign ≠ y.num.sign → (x - y).num.sign = if x.num.sign < y.num.sign then -1 else 1 := by
  have hsx : ∀ z : Int, ∀ d : Nat, d ≠ 0 → (z * d).sign = z.sign := by
    intro z d hd
    rw [Int.sign_mul, Int.sign_eq_one_of_pos (show (0 : Int) < d by omega), Int.mul_one]
  have hcx := hsx x.num y.den y.den_nz
  have hcy := hsx y.num x.den x.den_nz
  rw [sub_sign_num, ← hcx, ← hcy]
  generalize x.num * (y.den : Int) = a
  generalize y.num * (x.den : Int) = b
  intro h
  rcases Int.lt_trichotomy a 0 with h1 | h1 | h1 <;> rcases Int.lt_trichotomy b 0 with h2 | h2 | h2 <;>
    simp [h1, h2, Int.sign_eq_neg_one_of_neg, Int.sign_eq_one_of_pos] at h ⊢ <;> omega
end Gb
namespace Go.Proofs.YtnlabeglboomlaaGreatDoor.S
open Go Go.Sx Go.RowKit Gb Go.Shelf
set_option maxRecDepth 100000 in
set_option maxHeartbeats 4000000 in
theorem rcmp_n (a b : List UInt8) (ha : a.length < 90000) (hb : b.length < 90000) : Meets Tryz.prog Gd 92 [strP a, strP b] (rcmpP a b) := by
  refine meets_of_vc (Y := {}) (N := 63) (rs := [.tmp 4, .tmp 5]) mix tk gd Tryz.func92 rfl (by kernel_rfl) rfl rfl (by simp) (by kernel_rfl) ?_
  unfold rcmpP
  cases h : (isRat a && isRat b) with
  | false =>
    simp (maxSteps := 10000000) only [↓sx, sx, ↓reduceIte, Nat.reduceEqDiff, pc]
    refine CallT.mk (both_no a b ha hb h) ?_
    simp (maxSteps := 10000000) only [↓sx, sx, ↓ty, ↓reduceIte, Nat.reduceEqDiff, Nat.reduceAdd, Nat.reduceLT, Int.reduceBNe, pc, ls, bs, and_self, Nat.reduceAdd, Nat.le_refl, fr0]
  | true =>
    obtain ⟨h1, h2⟩ := and_split h
    have s1 := sz_ok h1 ha
    have s2 := sz_ok h2 hb
    have z1 := s1.1
    have z2 := s1.2
    have z3 := s2.1
    have z4 := s2.2
    simp (maxSteps := 10000000) only [↓sx, sx, ↓reduceIte, Nat.reduceEqDiff, pc]
    refine CallT.mk (both_ok a b ha hb h1 h2) ?_
    by_cases hab : a = b
    · subst hab
      have e1 : (a == a) = true := by simp
      simp (maxSteps := 10000000) only [↓sx, sx, ↓ty, ↓reduceIte, Nat.reduceEqDiff, Nat.reduceAdd, Nat.reduceLT, Int.reduceBNe, pc, ls, bs, and_self, Nat.reduceAdd, Nat.le_refl, pd, e1]
      rw [sub_self_sign]
    · have e1 : (a == b) = false := by simpa using hab
      simp (maxSteps := 10000000) only [↓sx, sx, ↓ty, ↓reduceIte, Nat.reduceEqDiff, Nat.reduceAdd, Nat.reduceLT, Int.reduceBNe, pc, ls, bs, and_self, Nat.reduceAdd, Nat.le_refl, pd, e1]
      refine CallT.mk (t := ⟨⟩) (fsign_n (ratOf a) (s1.mono (by omega))) ?_
      simp (maxSteps := 10000000) only [↓sx, sx, ↓ty, ↓reduceIte, Nat.reduceEqDiff, Nat.reduceAdd, ls, Nat.reduceAdd, Nat.le_refl]
      refine CallT.mk (t := ⟨⟩) (fsign_n (ratOf b) (s2.mono (by omega))) ?_
      by_cases hs : (ratOf a).num.sign = (ratOf b).num.sign
      · have e2 : ((ratOf a).num.sign != (ratOf b).num.sign) = false := by simpa using hs
        simp (maxSteps := 10000000) only [↓sx, sx, ↓ty, ↓reduceIte, Nat.reduceEqDiff, Nat.reduceAdd, ne_eq, not_false_eq_true, pc, ls, Nat.reduceAdd, e2]
        refine CallT.to (imul_n (ratOf a).num ((ratOf b).den : Int) (by omega) (by rw [Int.natAbs_natCast]; omega)) (by rw [siP_nat]; rfl) ?_
        simp (maxSteps := 10000000) only [↓sx, sx, ↓ty, ↓reduceIte, Nat.reduceEqDiff, Nat.reduceAdd, ne_eq, not_false_eq_true, pc, ls, Nat.reduceAdd]
        refine CallT.to (imul_n (ratOf b).num ((ratOf a).den : Int) (by omega) (by rw [Int.natAbs_natCast]; omega)) (by rw [siP_nat]; rfl) ?_
        simp (maxSteps := 10000000) only [↓sx, sx, ↓reduceIte, Nat.reduceEqDiff, pc]
        have l1 := Lw_imul (ratOf a).num (ratOf b).den
        have l2 := Lw_imul (ratOf b).num (ratOf a).den
        rw [Int.natAbs_natCast] at l1 l2
        refine CallT.mk (icompare_n ((ratOf a).num * (ratOf b).den) ((ratOf b).num * (ratOf a).den) (by omega) (by omega)) ?_
        simp (maxSteps := 10000000) only [↓sx, sx, ↓reduceIte, Nat.reduceEqDiff, pc]
        rw [sub_sign_num]
      · have e2 : ((ratOf a).num.sign != (ratOf b).num.sign) = true := by simpa using hs
        have k := sign_key (ratOf a) (ratOf b) hs
        have c := cut_sign (sign_3 _) (sign_3 _) hs
        have b1 := sign_3 (ratOf a).num
        have b2 := sign_3 (ratOf b).num
        simp (maxSteps := 10000000) only [↓sx, sx, ↓reduceIte, Nat.reduceEqDiff, pc, e2]
        rw [k, ← c, i64_id (x := (ratOf a).num.sign - (ratOf b).num.sign) (by omega) (by omega)]
end Go.Proofs.YtnlabeglboomlaaGreatDoor.S
namespace Gb
open Go Go.RowKit Go.Sx
theorem rT_len {k : Nat} {x : Rat} (h : Sz k x) : (rT x).length ≤ 18 * k + 5 := by
  have l1 := iD_len x.num
  have l2 := dec_len x.den
  have := h.1; have := h.2
  unfold rT
  split
  · omega
  · simp; omega
def ivP (a b : List UInt8) : PV := .agg [strP a, strP b]
def ivQ (p : Rat × Rat) : PV := .agg [rtP p.1, rtP p.2]
theorem pi : (∀ a b : List UInt8, ivP a b = .agg [.val (.string ⟨a.toArray⟩), .val (.string ⟨b.toArray⟩)]) ∧
  (∀ p : Rat × Rat, ivQ p = .agg [.val (.string ⟨(rT p.1).toArray⟩), .val (.string ⟨(rT p.2).toArray⟩)]) := ⟨fun _ _ => rfl, fun _ => rfl⟩
theorem lt_sign (x y : Rat) : (x - y).num.sign < 0 ↔ x < y := by
  rw [sub_sign_num, Rat.lt_iff]
  generalize x.num * (y.den : Int) = a
  generalize y.num * (x.den : Int) = b
  rcases Int.lt_trichotomy (a - b) 0 with h | h | h
  · rw [Int.sign_eq_neg_one_of_neg h]; omega
  · rw [h]; simp; omega
  · rw [Int.sign_eq_one_of_pos h]; omega
end Gb
namespace Go.Proofs.YtnlabeglboomlaaGreatDoor.S
open Go Go.Sx Go.RowKit Gb Go.Shelf
theorem rcmp_q (x y : Rat) (hx : Sz 4000 x) (hy : Sz 4000 y) : Meets Tryz.prog Gd 92 [rtP x, rtP y] (.tup [iP (x - y).num.sign, iP 0]) := by
  have := rcmp_n (rT x) (rT y) (by have := rT_len hx; omega) (by have := rT_len hy; omega)
  unfold rcmpP at this
  rw [isRat_rT, isRat_rT, ratOf_rT, ratOf_rT] at this
  exact this
end Go.Proofs.YtnlabeglboomlaaGreatDoor.S
namespace Gb
open Go Go.RowKit Go.Sx
theorem rT_0 : rT 0 = [48] := by
  unfold rT
  rw [if_pos (show (0 : Rat).den = 1 from rfl)]
  show iD 0 = _
  unfold iD
  rw [if_neg (by decide)]
  exact dec_0
def e0 : PV := .val (.string ⟨#[]⟩)
theorem w4 : IntKind.i64.wrap 0 = 0 ∧ IntKind.i64.wrap 1 = 1 ∧ IntKind.i64.wrap 2 = 2 ∧ IntKind.i64.wrap 3 = 3 := by decide
end Gb
namespace Go.Proofs.YtnlabeglboomlaaGreatDoor.S
open Go Go.Sx Go.RowKit Gb Go.Shelf
end Go.Proofs.YtnlabeglboomlaaGreatDoor.S
namespace Gb
open Go Go.RowKit Go.Sx
theorem ratOf_0 : ratOf [48] = 0 := by
  have := ratOf_rT 0
  rwa [rT_0] at this
theorem Sz0 (k : Nat) (hk : 1 ≤ k) : Sz k 0 := Sz.int (z := 0) (by rw [Int.natAbs_zero, Lw_zero]; omega) hk
end Gb
namespace Go.Proofs.YtnlabeglboomlaaGreatDoor.S
open Go Go.Sx Go.RowKit Gb Go.Shelf
theorem rop_q {F : FuncId} {f : Rat → Rat → Rat} (h : ∀ a b : List UInt8, a.length < 90000 → b.length < 90000 → Meets Tryz.prog Gd F [strP a, strP b] (ropP f a b)) (x y : Rat) (hx : Sz 4000 x) (hy : Sz 4000 y) :
    Meets Tryz.prog Gd F [rtP x, rtP y] (.tup [rtP (f x y), iP 0]) := by
  have := h (rT x) (rT y) (by have := rT_len hx; omega) (by have := rT_len hy; omega)
  unfold ropP at this
  rw [isRat_rT, isRat_rT, ratOf_rT, ratOf_rT] at this
  exact this
end Go.Proofs.YtnlabeglboomlaaGreatDoor.S
namespace Gb
open Go Go.RowKit Go.Sx
end Gb
namespace Go.Proofs.YtnlabeglboomlaaGreatDoor.S
open Go Go.Sx Go.RowKit Gb Go.Shelf
end Go.Proofs.YtnlabeglboomlaaGreatDoor.S
namespace Gb
open Go Go.RowKit Go.Sx
end Gb
namespace Go.Proofs.YtnlabeglboomlaaGreatDoor.S
open Go Go.Sx Go.RowKit Gb Go.Shelf
end Go.Proofs.YtnlabeglboomlaaGreatDoor.S
namespace Gb
open Go Go.RowKit Go.Sx
def recs {α : Type} (c : α → List PV) (l : List α) : List PV := l.flatMap c
theorem recs_cons {α : Type} (c : α → List PV) (x : α) (l : List α) : recs c (x :: l) = c x ++ recs c l := rfl
theorem recs_app {α : Type} (c : α → List PV) (l m : List α) : recs c (l ++ m) = recs c l ++ recs c m := List.flatMap_append
theorem recs_len {α : Type} {c : α → List PV} {sz : Nat} (hc : ∀ x, (c x).length = sz) : ∀ l : List α, (recs c l).length = l.length * sz
  | [] => by simp [recs]
  | x :: l => by rw [recs_cons, List.length_append, hc, recs_len hc l, List.length_cons, Nat.succ_mul]; omega
theorem recs_drop {α : Type} {c : α → List PV} {sz : Nat} (hc : ∀ x, (c x).length = sz) : ∀ (l : List α) (i : Nat) (x : α), l[i]? = some x → (recs c l).drop (i * sz) = c x ++ recs c (l.drop (i + 1))
  | [], i, x, h => by simp at h
  | y :: l, 0, x, h => by simp at h; subst h; rw [Nat.zero_mul]; rfl
  | y :: l, i + 1, x, h => by
    have ih := recs_drop hc l i x (by simpa using h)
    rw [recs_cons, Nat.succ_mul, Nat.add_comm, List.drop_append, hc, show sz + i * sz - sz = i * sz by omega, List.drop_eq_nil_of_le (by rw [hc]; omega), List.nil_append, ih]
    rfl
theorem recs_take {α : Type} {c : α → List PV} {sz : Nat} (hc : ∀ x, (c x).length = sz) : ∀ (l : List α) (i : Nat), (recs c l).take (i * sz) = recs c (l.take i)
  | l, 0 => by simp [recs]
  | [], i + 1 => by simp [recs]
  | x :: l, i + 1 => by
    rw [recs_cons, Nat.succ_mul, Nat.add_comm, List.take_append, hc, show sz + i * sz - sz = i * sz by omega, List.take_of_length_le (by rw [hc]; omega), recs_take hc l i]
    rfl
theorem recs_dropn {α : Type} {c : α → List PV} {sz : Nat} (hc : ∀ x, (c x).length = sz) : ∀ (l : List α) (i : Nat), (recs c l).drop (i * sz) = recs c (l.drop i)
  | l, 0 => by simp
  | [], i + 1 => by simp [recs]
  | x :: l, i + 1 => by
    rw [recs_cons, Nat.succ_mul, Nat.add_comm, List.drop_append, hc, show sz + i * sz - sz = i * sz by omega, List.drop_eq_nil_of_le (by rw [hc]; omega), List.nil_append, recs_dropn hc l i]
    rfl
theorem recs_leaf {α : Type} {c : α → List PV} (hc : ∀ x, (c x).all leafP = true) : ∀ l : List α, (recs c l).all leafP = true
  | [] => rfl
  | x :: l => by rw [recs_cons, List.all_append, hc, recs_leaf hc l]; rfl
structure Vt where
  x : List UInt8
  y : List UInt8
  z : List UInt8
structure Vq where
  x : Rat
  y : Rat
  z : Rat
def vtP (v : Vt) : PV := .agg [strP v.x, strP v.y, strP v.z]
def vqP (v : Vq) : PV := .agg [rtP v.x, rtP v.y, rtP v.z]
def vtC (v : Vt) : List PV := [.val (.string ⟨v.x.toArray⟩), .val (.string ⟨v.y.toArray⟩), .val (.string ⟨v.z.toArray⟩)]
theorem pv : (∀ v : Vt, vtP v = .agg [.val (.string ⟨v.x.toArray⟩), .val (.string ⟨v.y.toArray⟩), .val (.string ⟨v.z.toArray⟩)]) ∧
  (∀ v : Vq, vqP v = .agg [.val (.string ⟨(rT v.x).toArray⟩), .val (.string ⟨(rT v.y).toArray⟩), .val (.string ⟨(rT v.z).toArray⟩)]) := ⟨fun _ => rfl, fun _ => rfl⟩
def Vt.rat (v : Vt) : Bool := isRat v.x && isRat v.y && isRat v.z
def Vt.val (v : Vt) : Vq := ⟨ratOf v.x, ratOf v.y, ratOf v.z⟩
def Vq.txt (v : Vq) : Vt := ⟨rT v.x, rT v.y, rT v.z⟩
def SzV (k : Nat) (v : Vq) : Prop := Sz k v.x ∧ Sz k v.y ∧ Sz k v.z
theorem SzV.mono {k m : Nat} {v : Vq} (h : SzV k v) (hm : k ≤ m) : SzV m v := ⟨h.1.mono hm, h.2.1.mono hm, h.2.2.mono hm⟩
def Vq.add (a b : Vq) : Vq := ⟨a.x + b.x, a.y + b.y, a.z + b.z⟩
def Vq.scale (a : Vq) (k : Rat) : Vq := ⟨a.x * k, a.y * k, a.z * k⟩
theorem vt_rat {v : Vt} (h : v.rat = true) : isRat v.x = true ∧ isRat v.y = true ∧ isRat v.z = true := by
  unfold Vt.rat at h
  simp only [Bool.and_eq_true] at h
  exact ⟨h.1.1, h.1.2, h.2⟩
theorem vt_val {v : Vt} (h : v.rat = true) : v.val.txt = v := by
  obtain ⟨h1, h2, h3⟩ := vt_rat h
  cases v
  simp only [Vt.val, Vq.txt, rT_ratOf h1, rT_ratOf h2, rT_ratOf h3]
theorem vtP_txt (v : Vq) : vtP v.txt = vqP v := rfl
theorem cn : (((0 : Nat) : Int) = 0) ∧ (((1 : Nat) : Int) = 1) ∧ (((2 : Nat) : Int) = 2) ∧ (((3 : Nat) : Int) = 3) ∧ (Int.toNat 0 = 0) ∧ (Int.toNat 1 = 1) ∧ (Int.toNat 2 = 2) ∧ (Int.toNat 3 = 3) ∧
  (decide ((0 : Int) < 3) = true) ∧ (decide ((1 : Int) < 3) = true) ∧ (decide ((2 : Int) < 3) = true) ∧ (decide ((3 : Int) < 3) = false) ∧ (decide ((0 : Int) < 2) = true) ∧ (decide ((1 : Int) < 2) = true) ∧ (decide ((2 : Int) < 2) = false) ∧ (∀ n : Nat, 1 * n = n) ∧ (∀ n : Nat, 0 + n = n) ∧ (∀ n : Nat, 0 * n = 0) ∧
  IntKind.i64.wrap (0 + 1) = 1 ∧ IntKind.i64.wrap (1 + 1) = 2 ∧ IntKind.i64.wrap (2 + 1) = 3 ∧ ((0 : Int) ≤ 0) ∧ ((0 : Int) ≤ 1) ∧ ((0 : Int) ≤ 2) ∧ (0 < 3) ∧ (1 < 3) ∧ (2 < 3) := by
  refine ⟨rfl, rfl, rfl, rfl, rfl, rfl, rfl, rfl, rfl, rfl, rfl, rfl, rfl, rfl, rfl, Nat.one_mul, Nat.zero_add, Nat.zero_mul, rfl, rfl, rfl, ?_⟩
  decide
end Gb
namespace Gb
open Go Go.RowKit Go.Sx
def iqP (p : Rat × Rat) : PV := .agg [.val (.bool (decide (p.1.num < 0))), nP p.1.num.natAbs, nP p.1.den, .val (.bool (decide (p.2.num < 0))), nP p.2.num.natAbs, nP p.2.den]
theorem pj : ∀ p : Rat × Rat, iqP p = .agg [.val (.bool (decide (p.1.num < 0))), .sl (wl p.1.num.natAbs).length ((wl p.1.num.natAbs).map wv), .sl (wl p.1.den).length ((wl p.1.den).map wv),
  .val (.bool (decide (p.2.num < 0))), .sl (wl p.2.num.natAbs).length ((wl p.2.num.natAbs).map wv), .sl (wl p.2.den).length ((wl p.2.den).map wv)] := fun _ => rfl
def SzI (k : Nat) (p : Rat × Rat) : Prop := Sz k p.1 ∧ Sz k p.2
theorem SzI.mono {k m : Nat} {p : Rat × Rat} (h : SzI k p) (hm : k ≤ m) : SzI m p := ⟨h.1.mono hm, h.2.mono hm⟩
def rd (a : List UInt8) : Rat := if isRat a then ratOf a else 0
theorem rd_sz {a : List UInt8} {k : Nat} (h : a.length ≤ 9 * k) : Sz (k + 1) (rd a) := by
  unfold rd
  split
  · rename_i h1; exact Sz.of h1 h
  · exact (Sz.int (z := 0) (by rw [Int.natAbs_zero, Lw_zero]; omega) (by omega))
end Gb
namespace Go.Proofs.YtnlabeglboomlaaGreatDoor.S
open Go Go.Sx Go.RowKit Gb Go.Shelf
end Go.Proofs.YtnlabeglboomlaaGreatDoor.S
namespace Gb
open Go Go.RowKit Go.Sx
theorem sign_lt0 (x : Rat) : x.num.sign < 0 ↔ x < 0 := by
  have := lt_sign x 0
  rwa [show x - 0 = x by grind] at this
end Gb
namespace Go.Proofs.YtnlabeglboomlaaGreatDoor.S
open Go Go.Sx Go.RowKit Gb Go.Shelf
end Go.Proofs.YtnlabeglboomlaaGreatDoor.S
namespace Gb
open Go Go.RowKit Go.Sx
end Gb
namespace Go.Proofs.YtnlabeglboomlaaGreatDoor.S
open Go Go.Sx Go.RowKit Gb Go.Shelf
end Go.Proofs.YtnlabeglboomlaaGreatDoor.S
namespace Gb
open Go Go.RowKit Go.Sx
def texts (l : List (List UInt8)) : List PV := l.map strP
theorem take_snocA {α : Type} {l : List α} {i : Nat} {x : α} (hx : l[i]? = some x) : l.take (i + 1) = l.take i ++ [x] := by
  rw [List.take_add_one, hx]; rfl
end Gb
namespace Go.Proofs.YtnlabeglboomlaaGreatDoor.S
open Go Go.Sx Go.RowKit Gb Go.Shelf
end Go.Proofs.YtnlabeglboomlaaGreatDoor.S
namespace Gb
open Go Go.RowKit Go.Sx
end Gb
namespace Gb
open Go Go.RowKit Go.Sx
end Gb
namespace Gb
open Go Go.RowKit Go.Sx
theorem rtP_of {l : List UInt8} (h : isRat l = true) : rtP (ratOf l) = strP l := by unfold rtP; rw [rT_ratOf h]
theorem rT_zero6 (y : Rat) : (rT y == [48]) = decide (y = 0) := by
  by_cases h : y = 0
  · subst h; rw [rT_0]; rfl
  · rw [decide_eq_false h, beq_eq_false_iff_ne]
    intro e
    have := congrArg ratOf e
    rw [ratOf_rT, ratOf_0] at this
    exact h this
end Gb
namespace Go.Proofs.YtnlabeglboomlaaGreatDoor.S
open Go Go.Sx Go.RowKit Gb Go.Shelf
end Go.Proofs.YtnlabeglboomlaaGreatDoor.S
namespace Gb
open Go Go.RowKit Go.Sx
end Gb
namespace Go.Proofs.YtnlabeglboomlaaGreatDoor.S
open Go Go.Sx Go.RowKit Gb Go.Shelf
attribute [local go_sem] Oper.semAt_some
end Go.Proofs.YtnlabeglboomlaaGreatDoor.S
namespace Gb
open Go Go.RowKit
section
variable {P : Program} {L D fn : Nat} {tmps : Array Value} {ps : Array Tmp} {assign body : Code} {W : World}
end
end Gb
namespace Gb
open Go Go.RowKit Go.Sx
end Gb
namespace Go.Proofs.YtnlabeglboomlaaGreatDoor.S
open Go Go.Sx Go.RowKit Gb Go.Shelf
attribute [local go_sem] Oper.semAt_some
section
variable {w0 : World} {n m : Int} {s l y : Rat} {st : Obj} {W : World}
end
end Go.Proofs.YtnlabeglboomlaaGreatDoor.S
namespace Gb
open Go Go.RowKit Go.Sx
theorem Sz.addT {k m : Nat} {x y : Rat} (hx : Sz k x) (hy : Sz m y) : Sz (k + m + 1) (x + y) := by
  rw [Rat.add_def]
  have h1 := Lw_imul x.num y.den
  have h2 := Lw_imul y.num x.den
  have h3 := Lw_iadd (x.num * y.den) (y.num * x.den)
  have h4 := Lw_mul x.den y.den
  have := hx.1; have := hx.2; have := hy.1; have := hy.2
  rw [Int.natAbs_natCast] at h1 h2
  exact Sz.norm _ (by omega) (by omega)
theorem Sz.mulT {k m : Nat} {x y : Rat} (hx : Sz k x) (hy : Sz m y) : Sz (k + m) (x * y) := by
  rw [Rat.mul_def]
  have h2 := Lw_imul x.num y.num
  have h4 := Lw_mul x.den y.den
  have := hx.1; have := hx.2; have := hy.1; have := hy.2
  exact Sz.norm _ (by omega) (by omega)
theorem Sz.divT {k m : Nat} {x y : Rat} (hx : Sz k x) (hy : Sz m y) (hm : 1 ≤ m) : Sz (k + m) (x / y) := by
  rw [Rat.div_def]; exact hx.mulT (hy.inv hm)
theorem Sz.subT {k m : Nat} {x y : Rat} (hx : Sz k x) (hy : Sz m y) : Sz (k + m + 1) (x - y) := by
  rw [Rat.sub_eq_add_neg]; exact hx.addT hy.neg
theorem cst (l : List UInt8) (x : Rat) (h : (isRat l && decide (ratOf l = x)) = true) : rtP x = strP l ∧ Sz (l.length / 9 + 1) x := by
  simp only [Bool.and_eq_true, decide_eq_true_eq] at h
  rw [← h.2]
  exact ⟨rtP_of h.1, Sz.text h.1⟩
theorem c4 : rtP (4) = strP [52] ∧ Sz 1 (4 : Rat) := cst [52] (4) (by decide +kernel)
theorem c12 : rtP ((1 / 2)) = strP [49, 47, 50] ∧ Sz 1 ((1 / 2) : Rat) := cst [49, 47, 50] ((1 / 2)) (by decide +kernel)
theorem c1 : rtP (1) = strP [49] ∧ Sz 1 (1 : Rat) := cst [49] (1) (by decide +kernel)
theorem c0 : rtP (0) = strP [48] ∧ Sz 1 (0 : Rat) := cst [48] (0) (by decide +kernel)
end Gb
namespace Gb
open Go Go.RowKit Go.Sx
def Vq.at (v : Vq) : Nat → Rat
  | 0 => v.x
  | 1 => v.y
  | _ => v.z
def zipC (F : Rat → Rat → Rat) (a b : Vq) : Nat → List PV
  | 0 => [strP [], strP [], strP []]
  | 1 => [rtP (F a.x b.x), strP [], strP []]
  | 2 => [rtP (F a.x b.x), rtP (F a.y b.y), strP []]
  | _ => [rtP (F a.x b.x), rtP (F a.y b.y), rtP (F a.z b.z)]
end Gb
namespace Go.Proofs.YtnlabeglboomlaaGreatDoor.S
open Go Go.Sx Go.RowKit Gb Go.Shelf
set_option maxRecDepth 100000 in
theorem vadd_q (x y : Rat) (hx : Sz 4000 x) (hy : Sz 4000 y) : Meets Tryz.prog Gd 86 [rtP x, rtP y] (rtP (x + y)) := by
  refine meets_of_vc (Y := {}) (N := 14) (rs := [.tmp 4]) mix tk gd Tryz.func86 rfl (by kernel_rfl) rfl rfl (by simp) (by kernel_rfl) ?_
  simp (maxSteps := 10000000) only [↓sx, sx, ↓ty, ↓reduceIte, Nat.reduceEqDiff, Nat.reduceBeqDiff, Nat.reduceAdd, Nat.reduceLeDiff, Nat.reduceLT, Nat.reduceMul, Nat.reduceSub, Int.reduceEq, Int.reduceBNe, Int.reduceBEq, ne_eq, not_false_eq_true, pc, ls, bs, and_true, true_and, and_self, Nat.reduceAdd, Nat.le_refl, leafP]
  refine CallT.mk (t := ⟨⟩) (rop_q radd_n x y hx hy) ?_
  simp (maxSteps := 10000000) only [↓sx, sx, ↓ty, ↓reduceIte, Nat.reduceEqDiff, Nat.reduceBeqDiff, Nat.reduceAdd, Nat.reduceLeDiff, Nat.reduceLT, Nat.reduceMul, Nat.reduceSub, Int.reduceEq, Int.reduceBNe, Int.reduceBEq, ne_eq, not_false_eq_true, pc, ls, bs, and_true, true_and, and_self, Nat.reduceAdd, Nat.le_refl, leafP]
set_option maxRecDepth 100000 in
theorem vmul_q (x y : Rat) (hx : Sz 4000 x) (hy : Sz 4000 y) : Meets Tryz.prog Gd 112 [rtP x, rtP y] (rtP (x * y)) := by
  refine meets_of_vc (Y := {}) (N := 14) (rs := [.tmp 4]) mix tk gd Tryz.func112 rfl (by kernel_rfl) rfl rfl (by simp) (by kernel_rfl) ?_
  simp (maxSteps := 10000000) only [↓sx, sx, ↓ty, ↓reduceIte, Nat.reduceEqDiff, Nat.reduceBeqDiff, Nat.reduceAdd, Nat.reduceLeDiff, Nat.reduceLT, Nat.reduceMul, Nat.reduceSub, Int.reduceEq, Int.reduceBNe, Int.reduceBEq, ne_eq, not_false_eq_true, pc, ls, bs, and_true, true_and, and_self, Nat.reduceAdd, Nat.le_refl, leafP]
  refine CallT.mk (t := ⟨⟩) (rop_q rmul_n x y hx hy) ?_
  simp (maxSteps := 10000000) only [↓sx, sx, ↓ty, ↓reduceIte, Nat.reduceEqDiff, Nat.reduceBeqDiff, Nat.reduceAdd, Nat.reduceLeDiff, Nat.reduceLT, Nat.reduceMul, Nat.reduceSub, Int.reduceEq, Int.reduceBNe, Int.reduceBEq, ne_eq, not_false_eq_true, pc, ls, bs, and_true, true_and, and_self, Nat.reduceAdd, Nat.le_refl, leafP]
set_option maxRecDepth 100000 in
theorem vcoord_n (v : Vt) : Meets Tryz.prog Gd 111 [vtP v] (vtP v) := by
  refine meets_of_vc (Y := {}) (N := 13) (rs := [.cell 2 132]) mix tk gd Tryz.func111 rfl (by kernel_rfl) rfl rfl (by simp) (by kernel_rfl) ?_
  simp (maxSteps := 10000000) only [↓sx, sx, ↓ty, ↓reduceIte, Nat.reduceEqDiff, Nat.reduceBeqDiff, Nat.reduceAdd, Nat.reduceLeDiff, Nat.reduceLT, Nat.reduceMul, Nat.reduceSub, Int.reduceEq, Int.reduceBNe, Int.reduceBEq, ne_eq, not_false_eq_true, pc, ls, bs, and_true, true_and, and_self, Nat.reduceAdd, Nat.le_refl, leafP, pv, cn]
set_option maxRecDepth 100000 in
theorem vof_n (v : Vt) : Meets Tryz.prog Gd 113 [vtP v] (vtP v) := by
  refine meets_of_vc (Y := {}) (N := 10) (rs := [.cell 2 28]) mix tk gd Tryz.func113 rfl (by kernel_rfl) rfl rfl (by simp) (by kernel_rfl) ?_
  simp (maxSteps := 10000000) only [↓sx, sx, ↓ty, ↓reduceIte, Nat.reduceEqDiff, Nat.reduceBeqDiff, Nat.reduceAdd, Nat.reduceLeDiff, Nat.reduceLT, Nat.reduceMul, Nat.reduceSub, Int.reduceEq, Int.reduceBNe, Int.reduceBEq, ne_eq, not_false_eq_true, pc, ls, bs, and_true, true_and, and_self, Nat.reduceAdd, Nat.le_refl, leafP, pv, cn]
set_option maxRecDepth 100000 in
set_option maxHeartbeats 4000000 in
theorem vvalid_n (v : Vt) (h : v.x.length < 80000 ∧ v.y.length < 80000 ∧ v.z.length < 80000) : Meets Tryz.prog Gd 76 [vtP v] (.val (.bool v.rat)) := by
  refine meets_of_vc (Y := {}) (N := 15) (rs := [.tmp 2]) mix tk gd Tryz.func76 rfl (by kernel_rfl) rfl rfl (by simp) (by kernel_rfl) ?_
  have C := vcoord_n v
  have V1 := rvalid_n v.x (by omega)
  have V2 := rvalid_n v.y (by omega)
  have V3 := rvalid_n v.z (by omega)
  simp (maxSteps := 10000000) only [↓sx, sx, ↓ty, ↓reduceIte, Nat.reduceEqDiff, Nat.reduceBeqDiff, Nat.reduceAdd, Nat.reduceLeDiff, Nat.reduceLT, Nat.reduceMul, Nat.reduceSub, Int.reduceEq, Int.reduceBNe, Int.reduceBEq, ne_eq, not_false_eq_true, pc, ls, bs, and_true, true_and, and_self, Nat.reduceAdd, Nat.le_refl, leafP, pv, cn]
  refine CallT.mk (t := ⟨⟩) C ?_
  simp (maxSteps := 10000000) only [↓sx, sx, ↓ty, ↓reduceIte, Nat.reduceEqDiff, Nat.reduceBeqDiff, Nat.reduceAdd, Nat.reduceLeDiff, Nat.reduceLT, Nat.reduceMul, Nat.reduceSub, Int.reduceEq, Int.reduceBNe, Int.reduceBEq, ne_eq, not_false_eq_true, pc, ls, bs, and_true, true_and, and_self, Nat.reduceAdd, Nat.le_refl, leafP, pv, cn]
  refine loopK_of (fun i : Nat => [(2, .p (.val (.bool false))), (7, .p (vtP v)), (8, .p (.val (.int .i64 (i : Nat))))]) (fun _ => []) (fun _ => []) (fun i => i ≤ 3 ∧ (0 < i → isRat v.x = true) ∧ (1 < i → isRat v.y = true) ∧ (2 < i → isRat v.z = true)) (fun i => 3 - i) 0 ⟨by omega, by omega, by omega, by omega⟩ ?_ ?_
  · simp (maxSteps := 10000000) only [isE_nil, is_cons, bo_p, bo_box, bo_orow, bo_rowp, any_cons', all_cons', all_nil', Bool.true_or, Bool.or_true, ↓sx, sx, ↓reduceIte, Nat.reduceEqDiff, Nat.reduceBeqDiff, pv, cn]
    try trivial
  · rintro i ⟨hi, h1, h2, h3⟩
    unfold Vt.rat
    rcases (show i = 0 ∨ i = 1 ∨ i = 2 ∨ i = 3 by omega) with rfl | rfl | rfl | rfl
    · simp (maxSteps := 10000000) only [↓sx, sx, ↓ty, ↓reduceIte, Nat.reduceEqDiff, Nat.reduceBeqDiff, Nat.reduceAdd, Nat.reduceLeDiff, Nat.reduceLT, Nat.reduceMul, Nat.reduceSub, Int.reduceEq, Int.reduceBNe, Int.reduceBEq, ne_eq, not_false_eq_true, pc, ls, bs, and_true, true_and, and_self, Nat.reduceAdd, Nat.le_refl, leafP, pv, cn]
      refine CallT.mk (t := ⟨⟩) V1 ?_
      cases hr : isRat v.x with
      | false => simp (maxSteps := 10000000) only [↓sx, sx, ↓ty, ↓reduceIte, Nat.reduceEqDiff, Nat.reduceBeqDiff, Nat.reduceAdd, Nat.reduceLeDiff, Nat.reduceLT, Nat.reduceMul, Nat.reduceSub, Int.reduceEq, Int.reduceBNe, Int.reduceBEq, ne_eq, not_false_eq_true, pc, ls, bs, and_true, true_and, and_self, Nat.reduceAdd, Nat.le_refl, leafP, pv, cn]
      | true =>
        simp (maxSteps := 10000000) only [↓sx, sx, ↓ty, ↓reduceIte, Nat.reduceEqDiff, Nat.reduceBeqDiff, Nat.reduceAdd, Nat.reduceLeDiff, Nat.reduceLT, Nat.reduceMul, Nat.reduceSub, Int.reduceEq, Int.reduceBNe, Int.reduceBEq, ne_eq, not_false_eq_true, pc, ls, bs, and_true, true_and, and_self, Nat.reduceAdd, Nat.le_refl, leafP, pv, cn]
        refine NextK.mk 1 (by omega) ⟨by omega, fun _ => rfl, by omega, by omega⟩ ?_
        simp (maxSteps := 10000000) only [isE_nil, is_cons, bo_p, bo_box, bo_orow, bo_rowp, any_cons', all_cons', all_nil', Bool.true_or, Bool.or_true, ↓sx, sx, ↓reduceIte, Nat.reduceEqDiff, Nat.reduceBeqDiff, pv, cn]
        try trivial
    · have r1 := h1 (by omega)
      simp (maxSteps := 10000000) only [↓sx, sx, ↓ty, ↓reduceIte, Nat.reduceEqDiff, Nat.reduceBeqDiff, Nat.reduceAdd, Nat.reduceLeDiff, Nat.reduceLT, Nat.reduceMul, Nat.reduceSub, Int.reduceEq, Int.reduceBNe, Int.reduceBEq, ne_eq, not_false_eq_true, pc, ls, bs, and_true, true_and, and_self, Nat.reduceAdd, Nat.le_refl, leafP, pv, cn]
      refine CallT.mk (t := ⟨⟩) V2 ?_
      cases hr : isRat v.y with
      | false => simp (maxSteps := 10000000) only [↓sx, sx, ↓ty, ↓reduceIte, Nat.reduceEqDiff, Nat.reduceBeqDiff, Nat.reduceAdd, Nat.reduceLeDiff, Nat.reduceLT, Nat.reduceMul, Nat.reduceSub, Int.reduceEq, Int.reduceBNe, Int.reduceBEq, ne_eq, not_false_eq_true, pc, ls, bs, and_true, true_and, and_self, Nat.reduceAdd, Nat.le_refl, leafP, pv, cn, r1]
      | true =>
        simp (maxSteps := 10000000) only [↓sx, sx, ↓ty, ↓reduceIte, Nat.reduceEqDiff, Nat.reduceBeqDiff, Nat.reduceAdd, Nat.reduceLeDiff, Nat.reduceLT, Nat.reduceMul, Nat.reduceSub, Int.reduceEq, Int.reduceBNe, Int.reduceBEq, ne_eq, not_false_eq_true, pc, ls, bs, and_true, true_and, and_self, Nat.reduceAdd, Nat.le_refl, leafP, pv, cn]
        refine NextK.mk 2 (by omega) ⟨by omega, fun _ => r1, fun _ => rfl, by omega⟩ ?_
        simp (maxSteps := 10000000) only [isE_nil, is_cons, bo_p, bo_box, bo_orow, bo_rowp, any_cons', all_cons', all_nil', Bool.true_or, Bool.or_true, ↓sx, sx, ↓reduceIte, Nat.reduceEqDiff, Nat.reduceBeqDiff, pv, cn]
        try trivial
    · have r1 := h1 (by omega)
      have r2 := h2 (by omega)
      simp (maxSteps := 10000000) only [↓sx, sx, ↓ty, ↓reduceIte, Nat.reduceEqDiff, Nat.reduceBeqDiff, Nat.reduceAdd, Nat.reduceLeDiff, Nat.reduceLT, Nat.reduceMul, Nat.reduceSub, Int.reduceEq, Int.reduceBNe, Int.reduceBEq, ne_eq, not_false_eq_true, pc, ls, bs, and_true, true_and, and_self, Nat.reduceAdd, Nat.le_refl, leafP, pv, cn]
      refine CallT.mk (t := ⟨⟩) V3 ?_
      cases hr : isRat v.z with
      | false => simp (maxSteps := 10000000) only [↓sx, sx, ↓ty, ↓reduceIte, Nat.reduceEqDiff, Nat.reduceBeqDiff, Nat.reduceAdd, Nat.reduceLeDiff, Nat.reduceLT, Nat.reduceMul, Nat.reduceSub, Int.reduceEq, Int.reduceBNe, Int.reduceBEq, ne_eq, not_false_eq_true, pc, ls, bs, and_true, true_and, and_self, Nat.reduceAdd, Nat.le_refl, leafP, pv, cn, r1, r2]
      | true =>
        simp (maxSteps := 10000000) only [↓sx, sx, ↓ty, ↓reduceIte, Nat.reduceEqDiff, Nat.reduceBeqDiff, Nat.reduceAdd, Nat.reduceLeDiff, Nat.reduceLT, Nat.reduceMul, Nat.reduceSub, Int.reduceEq, Int.reduceBNe, Int.reduceBEq, ne_eq, not_false_eq_true, pc, ls, bs, and_true, true_and, and_self, Nat.reduceAdd, Nat.le_refl, leafP, pv, cn]
        refine NextK.mk 3 (by omega) ⟨by omega, fun _ => r1, fun _ => r2, fun _ => rfl⟩ ?_
        simp (maxSteps := 10000000) only [isE_nil, is_cons, bo_p, bo_box, bo_orow, bo_rowp, any_cons', all_cons', all_nil', Bool.true_or, Bool.or_true, ↓sx, sx, ↓reduceIte, Nat.reduceEqDiff, Nat.reduceBeqDiff, pv, cn]
        try trivial
    · have r1 := h1 (by omega)
      have r2 := h2 (by omega)
      have r3 := h3 (by omega)
      simp (maxSteps := 10000000) only [↓sx, sx, ↓ty, ↓reduceIte, Nat.reduceEqDiff, Nat.reduceBeqDiff, Nat.reduceAdd, Nat.reduceLeDiff, Nat.reduceLT, Nat.reduceMul, Nat.reduceSub, Int.reduceEq, Int.reduceBNe, Int.reduceBEq, ne_eq, not_false_eq_true, pc, ls, bs, and_true, true_and, and_self, Nat.reduceAdd, Nat.le_refl, leafP, pv, cn, r1, r2, r3]
set_option maxRecDepth 100000 in
set_option maxHeartbeats 4000000 in
theorem zip_q (g : FuncId) (F : Rat → Rat → Rat) (a b : Vq) (h1 : Meets Tryz.prog Gd g [rtP a.x, rtP b.x] (rtP (F a.x b.x))) (h2 : Meets Tryz.prog Gd g [rtP a.y, rtP b.y] (rtP (F a.y b.y))) (h3 : Meets Tryz.prog Gd g [rtP a.z, rtP b.z] (rtP (F a.z b.z))) :
    Meets Tryz.prog Gd 85 [.clo g [] [], vqP a, vqP b] (vqP ⟨F a.x b.x, F a.y b.y, F a.z b.z⟩) := by
  refine meets_of_vc (Y := { ex := [1, 6] }) (N := 33) (rs := [.cell 6 28]) mix tk gd Tryz.func85 rfl (by kernel_rfl) rfl rfl (by simp) (by kernel_rfl) ?_
  have C1 := vcoord_n a.txt
  have C2 := vcoord_n b.txt
  rw [vtP_txt] at C1 C2
  have O := vof_n (Vq.txt ⟨F a.x b.x, F a.y b.y, F a.z b.z⟩)
  rw [vtP_txt] at O
  simp (maxSteps := 10000000) only [↓sx, sx, ↓ty, ↓reduceIte, Nat.reduceEqDiff, Nat.reduceBeqDiff, Nat.reduceAdd, Nat.reduceLeDiff, Nat.reduceLT, Nat.reduceMul, Nat.reduceSub, Int.reduceEq, Int.reduceBNe, Int.reduceBEq, ne_eq, not_false_eq_true, pc, ls, bs, and_true, true_and, and_self, Nat.reduceAdd, Nat.le_refl, leafP, pv, cn]
  refine ⟨by kernel_rfl, ?_⟩
  refine CallT.mk (t := ⟨⟩) C1 ?_
  simp (maxSteps := 10000000) only [↓sx, sx, ↓ty, ↓reduceIte, Nat.reduceEqDiff, Nat.reduceBeqDiff, Nat.reduceAdd, Nat.reduceLeDiff, Nat.reduceLT, Nat.reduceMul, Nat.reduceSub, Int.reduceEq, Int.reduceBNe, Int.reduceBEq, ne_eq, not_false_eq_true, pc, ls, bs, and_true, true_and, and_self, Nat.reduceAdd, Nat.le_refl, leafP, pv, cn]
  refine CallT.mk (t := ⟨⟩) C2 ?_
  simp (maxSteps := 10000000) only [↓sx, sx, ↓ty, ↓reduceIte, Nat.reduceEqDiff, Nat.reduceBeqDiff, Nat.reduceAdd, Nat.reduceLeDiff, Nat.reduceLT, Nat.reduceMul, Nat.reduceSub, Int.reduceEq, Int.reduceBNe, Int.reduceBEq, ne_eq, not_false_eq_true, pc, ls, bs, and_true, true_and, and_self, Nat.reduceAdd, Nat.le_refl, leafP, pv, cn]
  refine loopK_of (fun i : Nat => [(0, .p (.clo g [] [])), (6, .box 6 0), (7, .box 7 0), (8, .box 8 0), (9, .box 9 0), (17, .p (.val (.int .i64 (i : Nat))))]) (fun i => [(6, (28, [strP [], strP [], strP []])), (7, (132, [rtP a.x, rtP a.y, rtP a.z])), (8, (132, [rtP b.x, rtP b.y, rtP b.z])), (9, (132, zipC F a b i))]) (fun _ => []) (fun i => i ≤ 3) (fun i => 3 - i) 0 (by omega) ?_ ?_
  · simp (maxSteps := 10000000) only [isE_nil, is_cons, bo_p, bo_box, bo_orow, bo_rowp, any_cons', all_cons', all_nil', Bool.true_or, Bool.or_true, ↓sx, sx, ↓reduceIte, Nat.reduceEqDiff, Nat.reduceBeqDiff, pv, cn, zipC]
    try trivial
  · rintro i hi
    rcases (show i = 0 ∨ i = 1 ∨ i = 2 ∨ i = 3 by omega) with rfl | rfl | rfl | rfl
    · simp (maxSteps := 10000000) only [↓sx, sx, ↓ty, ↓reduceIte, Nat.reduceEqDiff, Nat.reduceBeqDiff, Nat.reduceAdd, Nat.reduceLeDiff, Nat.reduceLT, Nat.reduceMul, Nat.reduceSub, Int.reduceEq, Int.reduceBNe, Int.reduceBEq, ne_eq, not_false_eq_true, pc, ls, bs, and_true, true_and, and_self, Nat.reduceAdd, Nat.le_refl, leafP, pv, cn, zipC]
      refine ⟨by kernel_rfl, ?_⟩
      refine CallT.mk (t := ⟨⟩) h1 ?_
      simp (maxSteps := 10000000) only [↓sx, sx, ↓ty, ↓reduceIte, Nat.reduceEqDiff, Nat.reduceBeqDiff, Nat.reduceAdd, Nat.reduceLeDiff, Nat.reduceLT, Nat.reduceMul, Nat.reduceSub, Int.reduceEq, Int.reduceBNe, Int.reduceBEq, ne_eq, not_false_eq_true, pc, ls, bs, and_true, true_and, and_self, Nat.reduceAdd, Nat.le_refl, leafP, pv, cn, zipC]
      refine NextK.mk 1 (by omega) (by omega) ?_
      simp (maxSteps := 10000000) only [isE_nil, is_cons, bo_p, bo_box, bo_orow, bo_rowp, any_cons', all_cons', all_nil', Bool.true_or, Bool.or_true, ↓sx, sx, ↓reduceIte, Nat.reduceEqDiff, Nat.reduceBeqDiff, pv, cn, zipC]
      try trivial
    · simp (maxSteps := 10000000) only [↓sx, sx, ↓ty, ↓reduceIte, Nat.reduceEqDiff, Nat.reduceBeqDiff, Nat.reduceAdd, Nat.reduceLeDiff, Nat.reduceLT, Nat.reduceMul, Nat.reduceSub, Int.reduceEq, Int.reduceBNe, Int.reduceBEq, ne_eq, not_false_eq_true, pc, ls, bs, and_true, true_and, and_self, Nat.reduceAdd, Nat.le_refl, leafP, pv, cn, zipC]
      refine ⟨by kernel_rfl, ?_⟩
      refine CallT.mk (t := ⟨⟩) h2 ?_
      simp (maxSteps := 10000000) only [↓sx, sx, ↓ty, ↓reduceIte, Nat.reduceEqDiff, Nat.reduceBeqDiff, Nat.reduceAdd, Nat.reduceLeDiff, Nat.reduceLT, Nat.reduceMul, Nat.reduceSub, Int.reduceEq, Int.reduceBNe, Int.reduceBEq, ne_eq, not_false_eq_true, pc, ls, bs, and_true, true_and, and_self, Nat.reduceAdd, Nat.le_refl, leafP, pv, cn, zipC]
      refine NextK.mk 2 (by omega) (by omega) ?_
      simp (maxSteps := 10000000) only [isE_nil, is_cons, bo_p, bo_box, bo_orow, bo_rowp, any_cons', all_cons', all_nil', Bool.true_or, Bool.or_true, ↓sx, sx, ↓reduceIte, Nat.reduceEqDiff, Nat.reduceBeqDiff, pv, cn, zipC]
      try trivial
    · simp (maxSteps := 10000000) only [↓sx, sx, ↓ty, ↓reduceIte, Nat.reduceEqDiff, Nat.reduceBeqDiff, Nat.reduceAdd, Nat.reduceLeDiff, Nat.reduceLT, Nat.reduceMul, Nat.reduceSub, Int.reduceEq, Int.reduceBNe, Int.reduceBEq, ne_eq, not_false_eq_true, pc, ls, bs, and_true, true_and, and_self, Nat.reduceAdd, Nat.le_refl, leafP, pv, cn, zipC]
      refine ⟨by kernel_rfl, ?_⟩
      refine CallT.mk (t := ⟨⟩) h3 ?_
      simp (maxSteps := 10000000) only [↓sx, sx, ↓ty, ↓reduceIte, Nat.reduceEqDiff, Nat.reduceBeqDiff, Nat.reduceAdd, Nat.reduceLeDiff, Nat.reduceLT, Nat.reduceMul, Nat.reduceSub, Int.reduceEq, Int.reduceBNe, Int.reduceBEq, ne_eq, not_false_eq_true, pc, ls, bs, and_true, true_and, and_self, Nat.reduceAdd, Nat.le_refl, leafP, pv, cn, zipC]
      refine NextK.mk 3 (by omega) (by omega) ?_
      simp (maxSteps := 10000000) only [isE_nil, is_cons, bo_p, bo_box, bo_orow, bo_rowp, any_cons', all_cons', all_nil', Bool.true_or, Bool.or_true, ↓sx, sx, ↓reduceIte, Nat.reduceEqDiff, Nat.reduceBeqDiff, pv, cn, zipC]
      try trivial
    · simp (maxSteps := 10000000) only [↓sx, sx, ↓ty, ↓reduceIte, Nat.reduceEqDiff, Nat.reduceBeqDiff, Nat.reduceAdd, Nat.reduceLeDiff, Nat.reduceLT, Nat.reduceMul, Nat.reduceSub, Int.reduceEq, Int.reduceBNe, Int.reduceBEq, ne_eq, not_false_eq_true, pc, ls, bs, and_true, true_and, and_self, Nat.reduceAdd, Nat.le_refl, leafP, pv, cn, zipC]
      refine CallT.mk (t := ⟨⟩) O ?_
      simp (maxSteps := 10000000) only [↓sx, sx, ↓ty, ↓reduceIte, Nat.reduceEqDiff, Nat.reduceBeqDiff, Nat.reduceAdd, Nat.reduceLeDiff, Nat.reduceLT, Nat.reduceMul, Nat.reduceSub, Int.reduceEq, Int.reduceBNe, Int.reduceBEq, ne_eq, not_false_eq_true, pc, ls, bs, and_true, true_and, and_self, Nat.reduceAdd, Nat.le_refl, leafP, pv, cn, zipC]
end Go.Proofs.YtnlabeglboomlaaGreatDoor.S
namespace Gb
open Go Go.RowKit Go.Sx
def Vt.lt (v : Vt) (n : Nat) : Prop := v.x.length < n ∧ v.y.length < n ∧ v.z.length < n
def Vt.nil : Vt := ⟨[], [], []⟩
theorem vt_nil : vtP Vt.nil = .agg [.val (.string ⟨#[]⟩), .val (.string ⟨#[]⟩), .val (.string ⟨#[]⟩)] := rfl
theorem vt_sz {v : Vt} (h : v.rat = true) {n : Nat} (hn : v.lt n) : SzV (n / 9 + 1) v.val := by
  obtain ⟨h1, h2, h3⟩ := vt_rat h
  obtain ⟨l1, l2, l3⟩ := hn
  exact ⟨(Sz.text h1).mono (by omega), (Sz.text h2).mono (by omega), (Sz.text h3).mono (by omega)⟩
theorem vqP_val {v : Vt} (h : v.rat = true) : vqP v.val = vtP v := by rw [← vtP_txt, vt_val h]
end Gb
namespace Go.Proofs.YtnlabeglboomlaaGreatDoor.S
open Go Go.Sx Go.RowKit Gb Go.Shelf
set_option maxRecDepth 100000 in
set_option maxHeartbeats 4000000 in
theorem vcheck2_n (a b : Vt) (ha : a.lt 80000) (hb : b.lt 80000) : Meets Tryz.prog Gd 115 [.sl 2 (vtC a ++ vtC b)] (iP (if a.rat && b.rat then 0 else 1)) := by
  refine meets_of_vc (Y := {}) (N := 15) (rs := [.tmp 2]) mix tk gd Tryz.func115 rfl (by kernel_rfl) rfl rfl (by simp) (by kernel_rfl) ?_
  have V1 := vvalid_n a ha
  have V2 := vvalid_n b hb
  unfold vtC
  simp (maxSteps := 10000000) only [↓sx, sx, ↓ty, ↓reduceIte, Nat.reduceEqDiff, Nat.reduceBeqDiff, Nat.reduceAdd, Nat.reduceLeDiff, Nat.reduceLT, Nat.reduceMul, Nat.reduceSub, Int.reduceEq, Int.reduceBNe, Int.reduceBEq, ne_eq, not_false_eq_true, pc, ls, bs, and_true, true_and, and_self, Nat.reduceAdd, Nat.le_refl, leafP, pv, cn]
  refine loopK_of (fun i : Nat => [(2, .p (iP 0)), (5, .p (.sl 2 (vtC a ++ vtC b))), (6, .p (.val (.int .i64 2))), (7, .p (.val (.int .i64 (i : Nat))))]) (fun _ => []) (fun _ => []) (fun i => i ≤ 2 ∧ (0 < i → a.rat = true) ∧ (1 < i → b.rat = true)) (fun i => 2 - i) 0 ⟨by omega, by omega, by omega⟩ ?_ ?_
  · unfold vtC
    simp (maxSteps := 10000000) only [isE_nil, is_cons, bo_p, bo_box, bo_orow, bo_rowp, any_cons', all_cons', all_nil', Bool.true_or, Bool.or_true, ↓sx, sx, ↓reduceIte, Nat.reduceEqDiff, Nat.reduceBeqDiff, pv, cn]
    first | trivial | rfl | exact ⟨rfl, rfl⟩ | exact ⟨rfl, rfl, rfl⟩ | exact ⟨rfl, rfl, rfl, rfl⟩ | exact ⟨rfl, rfl, rfl, rfl, rfl⟩
  · rintro i ⟨hi, h1, h2⟩
    rcases (show i = 0 ∨ i = 1 ∨ i = 2 by omega) with rfl | rfl | rfl
    · unfold vtC
      simp (maxSteps := 10000000) only [↓sx, sx, ↓ty, ↓reduceIte, Nat.reduceEqDiff, Nat.reduceBeqDiff, Nat.reduceAdd, Nat.reduceLeDiff, Nat.reduceLT, Nat.reduceMul, Nat.reduceSub, Int.reduceEq, Int.reduceBNe, Int.reduceBEq, ne_eq, not_false_eq_true, pc, ls, bs, and_true, true_and, and_self, Nat.reduceAdd, Nat.le_refl, leafP, pv, cn]
      refine CallT.mk (t := ⟨⟩) V1 ?_
      cases hr : a.rat with
      | false => simp (maxSteps := 10000000) only [↓sx, sx, ↓ty, ↓reduceIte, Nat.reduceEqDiff, Nat.reduceBeqDiff, Nat.reduceAdd, Nat.reduceLeDiff, Nat.reduceLT, Nat.reduceMul, Nat.reduceSub, Int.reduceEq, Int.reduceBNe, Int.reduceBEq, ne_eq, not_false_eq_true, pc, ls, bs, and_true, true_and, and_self, Nat.reduceAdd, Nat.le_refl, leafP, pv, cn]
      | true =>
        simp (maxSteps := 10000000) only [↓sx, sx, ↓ty, ↓reduceIte, Nat.reduceEqDiff, Nat.reduceBeqDiff, Nat.reduceAdd, Nat.reduceLeDiff, Nat.reduceLT, Nat.reduceMul, Nat.reduceSub, Int.reduceEq, Int.reduceBNe, Int.reduceBEq, ne_eq, not_false_eq_true, pc, ls, bs, and_true, true_and, and_self, Nat.reduceAdd, Nat.le_refl, leafP, pv, cn]
        refine NextK.mk 1 (by omega) ⟨by omega, fun _ => rfl, by omega⟩ ?_
        simp (maxSteps := 10000000) only [isE_nil, is_cons, bo_p, bo_box, bo_orow, bo_rowp, any_cons', all_cons', all_nil', Bool.true_or, Bool.or_true, ↓sx, sx, ↓reduceIte, Nat.reduceEqDiff, Nat.reduceBeqDiff, pv, cn]
        first | trivial | rfl | exact ⟨rfl, rfl⟩ | exact ⟨rfl, rfl, rfl⟩ | exact ⟨rfl, rfl, rfl, rfl⟩ | exact ⟨rfl, rfl, rfl, rfl, rfl⟩
    · have r1 := h1 (by omega)
      unfold vtC
      simp (maxSteps := 10000000) only [↓sx, sx, ↓ty, ↓reduceIte, Nat.reduceEqDiff, Nat.reduceBeqDiff, Nat.reduceAdd, Nat.reduceLeDiff, Nat.reduceLT, Nat.reduceMul, Nat.reduceSub, Int.reduceEq, Int.reduceBNe, Int.reduceBEq, ne_eq, not_false_eq_true, pc, ls, bs, and_true, true_and, and_self, Nat.reduceAdd, Nat.le_refl, leafP, pv, cn]
      refine CallT.mk (t := ⟨⟩) V2 ?_
      cases hr : b.rat with
      | false => simp (maxSteps := 10000000) only [↓sx, sx, ↓ty, ↓reduceIte, Nat.reduceEqDiff, Nat.reduceBeqDiff, Nat.reduceAdd, Nat.reduceLeDiff, Nat.reduceLT, Nat.reduceMul, Nat.reduceSub, Int.reduceEq, Int.reduceBNe, Int.reduceBEq, ne_eq, not_false_eq_true, pc, ls, bs, and_true, true_and, and_self, Nat.reduceAdd, Nat.le_refl, leafP, pv, cn, r1]
      | true =>
        simp (maxSteps := 10000000) only [↓sx, sx, ↓ty, ↓reduceIte, Nat.reduceEqDiff, Nat.reduceBeqDiff, Nat.reduceAdd, Nat.reduceLeDiff, Nat.reduceLT, Nat.reduceMul, Nat.reduceSub, Int.reduceEq, Int.reduceBNe, Int.reduceBEq, ne_eq, not_false_eq_true, pc, ls, bs, and_true, true_and, and_self, Nat.reduceAdd, Nat.le_refl, leafP, pv, cn]
        refine NextK.mk 2 (by omega) ⟨by omega, fun _ => r1, fun _ => rfl⟩ ?_
        simp (maxSteps := 10000000) only [isE_nil, is_cons, bo_p, bo_box, bo_orow, bo_rowp, any_cons', all_cons', all_nil', Bool.true_or, Bool.or_true, ↓sx, sx, ↓reduceIte, Nat.reduceEqDiff, Nat.reduceBeqDiff, pv, cn]
        first | trivial | rfl | exact ⟨rfl, rfl⟩ | exact ⟨rfl, rfl, rfl⟩ | exact ⟨rfl, rfl, rfl, rfl⟩ | exact ⟨rfl, rfl, rfl, rfl, rfl⟩
    · have r1 := h1 (by omega)
      have r2 := h2 (by omega)
      unfold vtC
      simp (maxSteps := 10000000) only [↓sx, sx, ↓ty, ↓reduceIte, Nat.reduceEqDiff, Nat.reduceBeqDiff, Nat.reduceAdd, Nat.reduceLeDiff, Nat.reduceLT, Nat.reduceMul, Nat.reduceSub, Int.reduceEq, Int.reduceBNe, Int.reduceBEq, ne_eq, not_false_eq_true, pc, ls, bs, and_true, true_and, and_self, Nat.reduceAdd, Nat.le_refl, leafP, pv, cn, r1, r2]
set_option maxRecDepth 100000 in
theorem vscale_q (a : Vq) (k : Rat) (ha : SzV 4000 a) (hk : Sz 4000 k) : Meets Tryz.prog Gd 81 [vqP a, rtP k] (vqP (a.scale k)) := by
  refine meets_of_vc (Y := { ex := [1] }) (N := 12) (rs := [.cell 4 28]) mix tk gd Tryz.func81 rfl (by kernel_rfl) rfl rfl (by simp) (by kernel_rfl) ?_
  have O := vof_n (Vq.txt ⟨k, k, k⟩)
  rw [vtP_txt] at O
  have Z : Meets Tryz.prog Gd 85 [.clo 112 [] [], vqP a, vqP ⟨k, k, k⟩] (vqP (a.scale k)) := zip_q 112 (fun x y => x * y) a ⟨k, k, k⟩ (vmul_q _ _ ha.1 hk) (vmul_q _ _ ha.2.1 hk) (vmul_q _ _ ha.2.2 hk)
  generalize a.scale k = r at *
  simp (maxSteps := 10000000) only [↓sx, sx, ↓ty, ↓reduceIte, Nat.reduceEqDiff, Nat.reduceBeqDiff, Nat.reduceAdd, Nat.reduceLeDiff, Nat.reduceLT, Nat.reduceMul, Nat.reduceSub, Int.reduceEq, Int.reduceBNe, Int.reduceBEq, ne_eq, not_false_eq_true, pc, ls, bs, and_true, true_and, and_self, Nat.reduceAdd, Nat.le_refl, leafP, pv, cn]
  refine ⟨by kernel_rfl, ?_⟩
  refine CallT.mk (t := ⟨⟩) O ?_
  simp (maxSteps := 10000000) only [↓sx, sx, ↓ty, ↓reduceIte, Nat.reduceEqDiff, Nat.reduceBeqDiff, Nat.reduceAdd, Nat.reduceLeDiff, Nat.reduceLT, Nat.reduceMul, Nat.reduceSub, Int.reduceEq, Int.reduceBNe, Int.reduceBEq, ne_eq, not_false_eq_true, pc, ls, bs, and_true, true_and, and_self, Nat.reduceAdd, Nat.le_refl, leafP, pv, cn]
  refine CallT.mk (t := ⟨⟩) Z ?_
  simp (maxSteps := 10000000) only [↓sx, sx, ↓ty, ↓reduceIte, Nat.reduceEqDiff, Nat.reduceBeqDiff, Nat.reduceAdd, Nat.reduceLeDiff, Nat.reduceLT, Nat.reduceMul, Nat.reduceSub, Int.reduceEq, Int.reduceBNe, Int.reduceBEq, ne_eq, not_false_eq_true, pc, ls, bs, and_true, true_and, and_self, Nat.reduceAdd, Nat.le_refl, leafP, pv, cn]
set_option maxRecDepth 100000 in
theorem vadd1_q (a b : Vq) (ha : SzV 4000 a) (hb : SzV 4000 b) : Meets Tryz.prog Gd 84 [vqP a, vqP b] (vqP (a.add b)) := by
  refine meets_of_vc (Y := {}) (N := 8) (rs := [.cell 4 28]) mix tk gd Tryz.func84 rfl (by kernel_rfl) rfl rfl (by simp) (by kernel_rfl) ?_
  have Z : Meets Tryz.prog Gd 85 [.clo 86 [] [], vqP a, vqP b] (vqP (a.add b)) := zip_q 86 (fun x y => x + y) a b (vadd_q _ _ ha.1 hb.1) (vadd_q _ _ ha.2.1 hb.2.1) (vadd_q _ _ ha.2.2 hb.2.2)
  generalize a.add b = r at *
  simp (maxSteps := 10000000) only [↓sx, sx, ↓ty, ↓reduceIte, Nat.reduceEqDiff, Nat.reduceBeqDiff, Nat.reduceAdd, Nat.reduceLeDiff, Nat.reduceLT, Nat.reduceMul, Nat.reduceSub, Int.reduceEq, Int.reduceBNe, Int.reduceBEq, ne_eq, not_false_eq_true, pc, ls, bs, and_true, true_and, and_self, Nat.reduceAdd, Nat.le_refl, leafP, pv, cn]
  refine CallT.mk (t := ⟨⟩) Z ?_
  simp (maxSteps := 10000000) only [↓sx, sx, ↓ty, ↓reduceIte, Nat.reduceEqDiff, Nat.reduceBeqDiff, Nat.reduceAdd, Nat.reduceLeDiff, Nat.reduceLT, Nat.reduceMul, Nat.reduceSub, Int.reduceEq, Int.reduceBNe, Int.reduceBEq, ne_eq, not_false_eq_true, pc, ls, bs, and_true, true_and, and_self, Nat.reduceAdd, Nat.le_refl, leafP, pv, cn]
set_option maxRecDepth 100000 in
theorem vapply_n (g : FuncId) (F : Vq → Vq → Vq) (a b : Vt) (ha : a.lt 80000) (hb : b.lt 80000) (h : a.rat = true → b.rat = true → Meets Tryz.prog Gd g [vtP a, vtP b] (vqP (F a.val b.val))) : Meets Tryz.prog Gd 83 [.clo g [] [], vtP a, vtP b] (if a.rat && b.rat then .tup [vqP (F a.val b.val), iP 0] else .tup [vtP Vt.nil, iP 1]) := by
  refine meets_of_vc (Y := {}) (N := 21) (rs := [.cell 6 28, .tmp 7]) mix tk gd Tryz.func83 rfl (by kernel_rfl) rfl rfl (by simp) (by kernel_rfl) ?_
  have C := vcheck2_n a b ha hb
  unfold vtC at C
  rw [vt_nil]
  cases h1 : a.rat with
  | false =>
    rw [h1] at C
    simp only [Bool.false_and, Bool.false_eq_true, if_false] at C ⊢
    simp (maxSteps := 10000000) only [↓sx, sx, ↓ty, ↓reduceIte, Nat.reduceEqDiff, Nat.reduceBeqDiff, Nat.reduceAdd, Nat.reduceLeDiff, Nat.reduceLT, Nat.reduceMul, Nat.reduceSub, Int.reduceEq, Int.reduceBNe, Int.reduceBEq, ne_eq, not_false_eq_true, pc, ls, bs, and_true, true_and, and_self, Nat.reduceAdd, Nat.le_refl, leafP, pv, cn]
    refine CallT.mk (t := ⟨⟩) C ?_
    simp (maxSteps := 10000000) only [↓sx, sx, ↓ty, ↓reduceIte, Nat.reduceEqDiff, Nat.reduceBeqDiff, Nat.reduceAdd, Nat.reduceLeDiff, Nat.reduceLT, Nat.reduceMul, Nat.reduceSub, Int.reduceEq, Int.reduceBNe, Int.reduceBEq, ne_eq, not_false_eq_true, pc, ls, bs, and_true, true_and, and_self, Nat.reduceAdd, Nat.le_refl, leafP, pv, cn]
  | true =>
    cases h2 : b.rat with
    | false =>
      rw [h1, h2] at C
      simp only [Bool.and_false, Bool.false_eq_true, if_false] at C ⊢
      simp (maxSteps := 10000000) only [↓sx, sx, ↓ty, ↓reduceIte, Nat.reduceEqDiff, Nat.reduceBeqDiff, Nat.reduceAdd, Nat.reduceLeDiff, Nat.reduceLT, Nat.reduceMul, Nat.reduceSub, Int.reduceEq, Int.reduceBNe, Int.reduceBEq, ne_eq, not_false_eq_true, pc, ls, bs, and_true, true_and, and_self, Nat.reduceAdd, Nat.le_refl, leafP, pv, cn]
      refine CallT.mk (t := ⟨⟩) C ?_
      simp (maxSteps := 10000000) only [↓sx, sx, ↓ty, ↓reduceIte, Nat.reduceEqDiff, Nat.reduceBeqDiff, Nat.reduceAdd, Nat.reduceLeDiff, Nat.reduceLT, Nat.reduceMul, Nat.reduceSub, Int.reduceEq, Int.reduceBNe, Int.reduceBEq, ne_eq, not_false_eq_true, pc, ls, bs, and_true, true_and, and_self, Nat.reduceAdd, Nat.le_refl, leafP, pv, cn]
    | true =>
      rw [h1, h2] at C
      have H := h h1 h2
      simp only [Bool.and_self, if_true] at C ⊢
      generalize F a.val b.val = r at *
      simp (maxSteps := 10000000) only [↓sx, sx, ↓ty, ↓reduceIte, Nat.reduceEqDiff, Nat.reduceBeqDiff, Nat.reduceAdd, Nat.reduceLeDiff, Nat.reduceLT, Nat.reduceMul, Nat.reduceSub, Int.reduceEq, Int.reduceBNe, Int.reduceBEq, ne_eq, not_false_eq_true, pc, ls, bs, and_true, true_and, and_self, Nat.reduceAdd, Nat.le_refl, leafP, pv, cn]
      refine CallT.mk (t := ⟨⟩) C ?_
      simp (maxSteps := 10000000) only [↓sx, sx, ↓ty, ↓reduceIte, Nat.reduceEqDiff, Nat.reduceBeqDiff, Nat.reduceAdd, Nat.reduceLeDiff, Nat.reduceLT, Nat.reduceMul, Nat.reduceSub, Int.reduceEq, Int.reduceBNe, Int.reduceBEq, ne_eq, not_false_eq_true, pc, ls, bs, and_true, true_and, and_self, Nat.reduceAdd, Nat.le_refl, leafP, pv, cn]
      refine CallT.mk (t := ⟨⟩) H ?_
      simp (maxSteps := 10000000) only [↓sx, sx, ↓ty, ↓reduceIte, Nat.reduceEqDiff, Nat.reduceBeqDiff, Nat.reduceAdd, Nat.reduceLeDiff, Nat.reduceLT, Nat.reduceMul, Nat.reduceSub, Int.reduceEq, Int.reduceBNe, Int.reduceBEq, ne_eq, not_false_eq_true, pc, ls, bs, and_true, true_and, and_self, Nat.reduceAdd, Nat.le_refl, leafP, pv, cn]
end Go.Proofs.YtnlabeglboomlaaGreatDoor.S
namespace Gb
open Go Go.RowKit Go.Sx
end Gb
namespace Gb
open Go Go.RowKit Go.Sx
end Gb
namespace Go.Proofs.YtnlabeglboomlaaGreatDoor.S
open Go Go.Sx Go.RowKit Gb Go.Shelf
end Go.Proofs.YtnlabeglboomlaaGreatDoor.S
namespace Gb
open Go Go.RowKit Go.Sx
end Gb
namespace Go.Proofs.YtnlabeglboomlaaGreatDoor.S
open Go Go.Sx Go.RowKit Gb Go.Shelf
end Go.Proofs.YtnlabeglboomlaaGreatDoor.S
namespace Gb
open Go Go.RowKit Go.Sx
end Gb
namespace Go.Proofs.YtnlabeglboomlaaGreatDoor.S
open Go Go.Sx Go.RowKit Gb Go.Shelf
end Go.Proofs.YtnlabeglboomlaaGreatDoor.S
namespace Gb
open Go Go.RowKit Go.Sx
theorem dw_len (p : UInt8 → Bool) : ∀ l : List UInt8, (l.dropWhile p).length ≤ l.length
  | [] => Nat.le_refl _
  | c :: r => by
    rw [List.dropWhile_cons]
    have := dw_len p r
    split
    · simp; omega
    · simp
theorem dwn (p : UInt8 → Bool) : ∀ l : List UInt8, l.dropWhile p = [] ↔ ∀ x ∈ l, p x = true
  | [] => by simp
  | c :: r => by
    rw [List.dropWhile_cons]
    by_cases h : p c = true
    · rw [if_pos h, dwn p r]
      constructor
      · intro k x hx
        rcases List.mem_cons.1 hx with rfl | hx
        · exact h
        · exact k x hx
      · exact fun k x hx => k x (List.mem_cons_of_mem _ hx)
    · rw [if_neg h]
      constructor
      · intro k; cases k
      · exact fun k => absurd (k c (List.mem_cons_self ..)) h
end Gb
namespace Go.Proofs.YtnlabeglboomlaaGreatDoor.S
open Go Go.Sx Go.RowKit Gb Go.Shelf
end Go.Proofs.YtnlabeglboomlaaGreatDoor.S
