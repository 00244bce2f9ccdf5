/- A part of a proof; the last text of this claim says of what. -/
import Derived.Test.YtolehnkoocnenaaGreatDoorV26
import Derived.MapKept
import Derived.Carry
import Derived.Lib.Walk
import Derived.WalkKit
import Derived.BigCall
import Derived.BigGuard
import Derived.Below
import Derived.RangeFuncBox
import Derived.RangeFuncLeaves
import Derived.OwnWalkIn
import Derived.TacticsInMore
import Derived.LoopNIn
import Derived.LoopIn
import Derived.RegionIn
import Derived.RangeFuncCalls
import Derived.RangeFuncWrites
import Derived.Stop.RegionWithIn
set_option linter.unusedVariables false
set_option linter.unusedSimpArgs false
set_option linter.unusedSectionVars false
namespace Gb
open Go Go.RowKit Go.Proofs.YtolehnkoocnenaaGreatDoor.T
def valW (zs : List W9) : Nat := zs.foldr (fun x v => x.val + 1000000000 * v) 0
theorem valW_nil : valW [] = 0 := rfl
theorem valW_cons (x : W9) (zs : List W9) : valW (x :: zs) = x.val + 1000000000 * valW zs := rfl
theorem valW_drop (zs : List W9) (i : Nat) (hi : i < zs.length) : valW (zs.drop i) = (zs[i]?.getD 0).val + 1000000000 * valW (zs.drop (i + 1)) := by
  rw [List.drop_eq_getElem_cons hi, valW_cons, List.getElem?_eq_getElem hi]; rfl
theorem natOf_zeros (n : Nat) : natOf (List.replicate n 48) = 0 := by
  induction n with
  | zero => rfl
  | succ n ih => rw [List.replicate_succ', natOf_snoc, ih]; rfl
theorem piece_natOf (len : Nat) (x : Nat × W9) : natOf (piece len x) = x.2.val := by
  unfold piece
  split
  · rw [natOf_append, natOf_zeros, natOf_dec]; omega
  · rw [List.nil_append, natOf_dec]
theorem piece_isD (len : Nat) (x : Nat × W9) : ∀ c ∈ piece len x, isD c = true := by
  intro c hc
  unfold piece at hc
  rcases List.mem_append.1 hc with h | h
  · split at h
    · rw [List.mem_replicate] at h; rw [h.2]; decide
    · cases h
  · exact dec_isD _ c h
theorem piece_nine (len : Nat) (x : Nat × W9) (h : x.1 + 1 < len) : (piece len x).length = 9 := by
  have := nDigits_nine x.2
  unfold piece
  rw [if_pos h, List.length_append, List.length_replicate, Lib.decDigits_length]; omega
theorem txt_val (zs : List W9) : ∀ k, k ≤ zs.length → natOf (txt zs.length (upto (bk zs zs.length) k)) = valW (zs.drop (zs.length - k)) := by
  intro k
  induction k with
  | zero => intro _; rw [Nat.sub_zero, List.drop_length]; rfl
  | succ k ih =>
    intro hk
    have h1 := ih (by omega)
    have hd := valW_drop zs (zs.length - (k + 1)) (by omega)
    rw [show zs.length - (k + 1) + 1 = zs.length - k by omega] at hd
    rw [upto_succ, txt_snoc, natOf_append, h1, hd, piece_natOf]
    have hb : (bk zs zs.length k).2.val = (zs[zs.length - (k + 1)]?.getD 0).val := by unfold bk; rw [show zs.length - 1 - k = zs.length - (k + 1) by omega]
    rw [hb]
    by_cases h0 : k = 0
    · subst h0
      rw [Nat.sub_zero, List.drop_length, valW_nil]; omega
    · rw [piece_nine _ _ (by unfold bk; show zs.length - 1 - k + 1 < _; omega)]
      omega
theorem txt_isD (zs : List W9) (pre : List (Nat × W9)) : ∀ c ∈ txt zs.length pre, isD c = true := by
  intro c hc
  unfold txt at hc
  obtain ⟨x, _, hx⟩ := List.mem_flatMap.1 hc
  exact piece_isD _ _ c hx
theorem txt_head (zs : List W9) (h0 : zs ≠ []) (ht : (zs[zs.length - 1]?.getD 0).val ≠ 0) : ∀ k, (txt zs.length (upto (bk zs zs.length) (k + 1))).head? = (Lib.decDigits (zs[zs.length - 1]?.getD 0).val).head? := by
  have hp := List.length_pos_iff.2 h0
  intro k
  induction k with
  | zero =>
    rw [upto_succ, txt_snoc]
    have : piece zs.length (bk zs zs.length 0) = Lib.decDigits (zs[zs.length - 1]?.getD 0).val := by
      unfold piece bk
      rw [if_neg (by show ¬ (zs.length - 1 - 0 + 1 < zs.length); omega), List.nil_append, Nat.sub_zero]
    rw [this]; rfl
  | succ k ih =>
    rw [upto_succ, txt_snoc]
    have hne : txt zs.length (upto (bk zs zs.length) (k + 1)) ≠ [] := by
      intro h
      rw [h] at ih
      cases hd : Lib.decDigits (zs[zs.length - 1]?.getD 0).val with
      | nil => exact dec_ne _ hd
      | cons c l => rw [hd] at ih; cases ih
    rw [← ih]
    cases hd : txt zs.length (upto (bk zs zs.length) (k + 1)) with
    | nil => exact absurd hd hne
    | cons c l => rfl
theorem text_dec (zs : List W9) (ht : zs ≠ [] → (zs[zs.length - 1]?.getD 0).val ≠ 0) : text zs = Lib.decDigits (valW zs) := by
  unfold text
  by_cases h0 : zs = []
  · rw [if_pos h0, h0, valW_nil]
    have h := dec_natOf (l := [48]) (by decide)
    rw [show natOf [48] = 0 from rfl] at h
    exact h.symm
  · rw [if_neg h0]
    have hp := List.length_pos_iff.2 h0
    have hv := txt_val zs zs.length (Nat.le_refl _)
    rw [Nat.sub_self, List.drop_zero] at hv
    rw [← hv]
    refine (dec_natOf ?_).symm
    have hh := txt_head zs h0 (ht h0) (zs.length - 1)
    rw [show zs.length - 1 + 1 = zs.length by omega] at hh
    refine isNat_iff.2 ⟨?_, txt_isD zs _, .inr ?_⟩
    · intro h
      rw [h] at hh
      cases hd : Lib.decDigits (zs[zs.length - 1]?.getD 0).val with
      | nil => exact dec_ne _ hd
      | cons c l => rw [hd] at hh; cases hh
    · rw [hh]
      intro h48
      rcases dec_head (zs[zs.length - 1]?.getD 0).val with h1 | h1
      · cases hd : Lib.decDigits (zs[zs.length - 1]?.getD 0).val with
        | nil => exact dec_ne _ hd
        | cons c l =>
          rw [hd] at h1 h48
          have hl : l = [] := List.length_eq_zero_iff.1 (by simpa using h1)
          subst hl
          injection h48 with h48
          subst h48
          have := natOf_dec (zs[zs.length - 1]?.getD 0).val
          rw [hd] at this
          exact ht h0 (by rw [← this]; rfl)
      · exact h1 h48
theorem parseM_digits (l : List UInt8) : ∀ (acc : Nat), (∀ c ∈ l, isD c = true) → acc * 10 ^ l.length + natOf l < 4294967296 → Lib.parseUintM 4294967295 acc l = .ok (acc * 10 ^ l.length + natOf l) := by
  induction l with
  | nil => intro acc _ _; simp [Lib.parseUintM, natOf]
  | cons c r ih =>
    intro acc hd h
    have hc := isD_iff.1 (hd c (List.mem_cons_self ..))
    have e : natOf (c :: r) = (c.toNat - 48) * 10 ^ r.length + natOf r := by
      rw [show c :: r = [c] ++ r from rfl, natOf_append]
      congr 2
      simp [natOf]
    have hp : 0 < 10 ^ r.length := Nat.pow_pos (by omega)
    have e2 : acc * 10 ^ (r.length + 1) + ((c.toNat - 48) * 10 ^ r.length + natOf r) = (acc * 10 + (c.toNat - 48)) * 10 ^ r.length + natOf r := by
      rw [Nat.pow_succ]; grind
    rw [e, List.length_cons, e2] at h ⊢
    have hb : acc * 10 + (c.toNat - 48) < 4294967296 := by
      have : (acc * 10 + (c.toNat - 48)) * 1 ≤ (acc * 10 + (c.toNat - 48)) * 10 ^ r.length := Nat.mul_le_mul_left _ hp
      omega
    rw [Lib.parseUintM, if_pos ⟨hc.1, hc.2⟩, if_neg (by omega), if_neg (by omega)]
    exact ih _ (fun x hx => hd x (List.mem_cons_of_mem _ hx)) h
theorem parse_chunk (l : List UInt8) (h0 : l ≠ []) (hd : ∀ c ∈ l, isD c = true) (h9 : l.length ≤ 9) : Lib.parseUintB 32 l = .ok (natOf l) := by
  have h1 := natOf_lt l hd
  have h2 : 10 ^ l.length ≤ 10 ^ 9 := Nat.pow_le_pow_right (by omega) h9
  have := parseM_digits l 0 hd (by omega)
  rw [Nat.zero_mul, Nat.zero_add] at this
  rw [Lib.parseUintB, if_neg h0]
  exact this
end Gb
namespace Go.Sx
open Go Go.RowKit Go.Shelf Go.Proofs
theorem meets_val {P : Program} {G : World → Prop} {f : FuncId} (args : List Value) {r : PV} (u : Value) (hent : Enters P f) (hrep : ∀ B w, RepP B w r u) (h : ∀ w, G w → Calls P f ⟨args⟩ w fun e w' => e = .returned u ∧ Below w.heap.size w w') : Meets P G f (args.map .val) r := by
  refine ⟨hent, fun B vs w hB hr hG => ?_⟩
  have : vs = args := by
    clear h
    induction args generalizing vs with
    | nil => simpa only [List.map_nil, RepL] using hr
    | cons x l ih =>
      simp only [List.map_cons, RepL, RepP] at hr
      obtain ⟨y, ys, rfl, rfl, h2⟩ := hr
      rw [ih ys h2]
  subst this
  refine (h w hG).mono ?_
  rintro e w' ⟨rfl, hb⟩
  exact ⟨u, rfl, hrep _ _, hb⟩
end Go.Sx
namespace Go.Proofs.YtolehnkoocnenaaGreatDoor.S
open Go Go.Sx Go.RowKit Gb Go.Proofs.YtolehnkoocnenaaGreatDoor.T Go.Shelf
def Gd (w : World) : Prop := Lib.TabIs Tryz.prog w "internal/strconv.uint64pow10" .u64 Lib.pow10Tab
theorem gd (w w' : World) (h : Gd w) (hB : Below w.heap.size w w') : Gd w' := Lib.tabBelow_of_tabIs h w' hB
theorem parse_n (l : List UInt8) (h0 : l ≠ []) (hd : ∀ c ∈ l, isD c = true) (h9 : l.length ≤ 9) : Meets Tryz.prog Gd 194 [strP l, .val (.int .i64 10), .val (.int .i64 32)] (.tup [.val (.int .u64 (natOf l : Nat)), .val .nilIface]) := by
  refine meets_val [.string ⟨l.toArray⟩, .int .i64 10, .int .i64 32] (.tuple ⟨[.int .u64 (natOf l : Nat), .nilIface]⟩) (enters_of Tryz.func194 (by kernel_rfl) rfl) ?_ ?_
  · intro B w
    simp [RepP, RepL]
  · intro w _
    refine (Tryz.strconv_ParseUint_10_at32_ok ⟨l.toArray⟩ (by show l.toArray.size ≤ _; simp; omega) (natOf l) (parse_chunk l h0 hd h9) w).mono ?_
    rintro e w' ⟨rfl, hw⟩
    refine ⟨rfl, ?_⟩
    rcases hw with rfl | rfl
    · exact Below.refl _ _
    · exact Lib.bytesWorld_below _ _ _
def wd (v : Int) : W9 := ⟨v.toNat % 1000000000, Nat.mod_lt _ (by decide)⟩
theorem wd_val {v : Int} (h : 0 ≤ v ∧ v < 1000000000) : ((wd v).val : Int) = v := by unfold wd; show ((v.toNat % 1000000000 : Nat) : Int) = v; omega
theorem valW_wd (l : List Int) (h : Dig l) : (valW (l.map wd) : Int) = val l := by
  induction l with
  | nil => rfl
  | cons x l ih =>
    rw [List.map_cons, valW_cons, val_cons, ← ih h.tail, Int.natCast_add, wd_val h.head]
    simp
theorem text_n (n : Nat) (hn : Lw n < 1000000) : Meets Tryz.prog Gd 175 [nP n] (strP (Lib.decDigits n)) := by
  refine ⟨enters_of Tryz.func175 (by kernel_rfl) rfl, ?_⟩
  intro B vs w hB hr hG
  rw [nP_c] at hr
  simp only [RepL, RepP] at hr
  obtain ⟨v, ys, rfl, ⟨a, c, rfl, hnc, hc0, hcs⟩, rfl⟩ := hr
  have hN := wl_norm n
  have hlen : ((wl n).map wd).length = (wl n).length := by simp
  have hI : (wl n).map wd ≠ [] → Ints w.heap.size w (.slice a ((wl n).map wd).length c) ((wl n).map wd) := by
    intro hne
    rcases hcs with h | ⟨b, o, rfl, hb, hC⟩
    · exact absurd (by simpa using h) (by simpa using hne)
    · refine .inr ⟨_, c, rfl, hB b hb, fun j hj => ?_⟩
      rw [List.length_map] at hj
      obtain ⟨us, h1, h2⟩ := repC_cells hC
      obtain ⟨x, h3, h4⟩ := h1.get j (wv ((wl n).getD j 0)) (by rw [List.getElem?_map, List.getElem?_eq_getElem hj, List.getD_eq_getElem?_getD, List.getElem?_eq_getElem hj]; rfl)
      have h5 := h2 j x h3
      rw [wv_c] at h4
      simp only [RepP] at h4
      rw [h5, h4, List.getElem?_map, List.getElem?_eq_getElem hj]
      have hv := hN.1 _ (List.getElem_mem hj)
      rw [List.getD_eq_getElem?_getD, List.getElem?_eq_getElem hj]
      show some (Value.int .u32 (wl n)[j]) = some (.int .u32 ((wd (wl n)[j]).val : Int))
      rw [wd_val hv]
  have ht := text_calls a c ((wl n).map wd) (by rw [hlen]; show Lw n ≤ _; omega) w hI hG
  rw [hlen, text_dec _ (fun hne => by
    have hl := List.length_pos_iff.2 hne
    rw [hlen] at hl
    have h1 := hN.2 (List.length_pos_iff.1 hl)
    have h2 := hN.1.getD ((wl n).length - 1)
    rw [hlen, List.getElem?_map, List.getElem?_eq_getElem (by omega)]
    rw [List.getD_eq_getElem?_getD, List.getElem?_eq_getElem (by omega)] at h1 h2
    show (wd (wl n)[(wl n).length - 1]).val ≠ 0
    have h3 := wd_val (v := (wl n)[(wl n).length - 1]) h2
    have h1' : (wl n)[(wl n).length - 1] ≠ 0 := h1
    omega)] at ht
  have hval : valW ((wl n).map wd) = n := by
    have := valW_wd (wl n) hN.1
    rw [wl_val] at this
    exact Int.ofNat_inj.1 this
  rw [hval] at ht
  refine ht.mono ?_
  rintro e w' ⟨rfl, hb⟩
  exact ⟨_, rfl, by rw [strP_c]; simp only [RepP], hb⟩
end Go.Proofs.YtolehnkoocnenaaGreatDoor.S
namespace Go.Proofs.YtolehnkoocnenaaGreatDoor.S
open Go Go.Sx Go.RowKit Gb
set_option maxRecDepth 100000 in
set_option maxHeartbeats 20000000 in
theorem nvalid_n (l : List UInt8) (hl : l.length < 100000000) : Meets Tryz.prog Gd 130 [strP l] (.val (.bool (isNat l))) := by
  refine meets_of_vc (Y := {}) (N := 32) (rs := [.tmp 2]) mix tk gd Tryz.func130 rfl (by kernel_rfl) rfl rfl (by simp) (by kernel_rfl) ?_
  simp (maxSteps := 10000000) only [↓sx, sx, ↓ty, ↓reduceIte, Nat.reduceEqDiff, Nat.reduceLT, strP_c]
  refine vcIf_b (fun h0 => ?_) (fun h0 => vcIf_dec (fun h1 => ⟨by omega, vcIf_b (fun h2 => ?_) (fun h2 => ?_)⟩) (fun h1 => ?_))
  · have h0 : l = [] := by simpa using h0
    subst h0
    rfl
  · have : isNat l = false := by
      rw [Bool.eq_false_iff]; intro hN
      obtain ⟨_, _, h3⟩ := isNat_iff.1 hN
      rcases h3 with h3 | h3
      · omega
      · apply h3
        cases l with
        | nil => simp at h1
        | cons c l =>
          simp at h2
          have : c = 48 := UInt8.toNat_inj.1 (by rw [show (48 : UInt8).toNat = 48 from rfl]; omega)
          rw [this]; rfl
    rw [this]
  all_goals
    have hz : l ≠ [] ∧ (l.length = 1 ∨ l.head? ≠ some 48) := by
      have hne : l ≠ [] := by intro h; rw [h] at h0; simp at h0
      refine ⟨hne, ?_⟩
      cases l with
      | nil => exact absurd rfl hne
      | cons c l =>
        first
          | (left; simp only [List.length_cons] at h1 ⊢; omega)
          | (right
             simp only [List.head?_cons, ne_eq, Option.some.injEq]
             rintro rfl
             simp at h2)
    clear h0 h1
    refine loopK_of (fun i : Nat => [(0, .p (.val (.string ⟨l.toArray⟩))), (17, .p (.val (.int .i64 (l.length : Nat)))), (18, .p (.val (.int .i64 (i : Nat))))]) (fun _ => []) (fun _ => []) (fun i => i ≤ l.length ∧ ∀ c ∈ l.take i, isD c = true) (fun i => l.length - i) 0 ⟨Nat.zero_le _, by simp⟩ ?_ ?_
    · simp (maxSteps := 10000000) only [isE_nil, is_cons, bo_p, all_nil', ↓sx, sx, ↓reduceIte, Nat.reduceEqDiff]
      try rfl
    · rintro i ⟨h1, h2⟩
      simp (maxSteps := 10000000) only [↓sx, sx, ↓ty, ↓reduceIte, Nat.reduceEqDiff, Nat.reduceLT, getD_get]
      refine vcIf_dec (fun hi => ?_) (fun hi => ?_)
      · have hmem : l.getD i 0 ∈ l := by
          rw [List.getD_eq_getElem?_getD, List.getElem?_eq_getElem (by omega)]; exact List.getElem_mem _
        refine ⟨by omega, vcIf_dec (fun hc => ?_) (fun hc => ?_)⟩
        · have : isNat l = false := by
            rw [Bool.eq_false_iff]; intro hN
            have := isD_iff.1 ((isNat_iff.1 hN).2.1 _ hmem)
            omega
          rw [this]
        · refine ⟨by omega, vcIf_dec (fun hc2 => ?_) (fun hc2 => ?_)⟩
          · have : isNat l = false := by
              rw [Bool.eq_false_iff]; intro hN
              have := isD_iff.1 ((isNat_iff.1 hN).2.1 _ hmem)
              omega
            rw [this]
          · refine NextK.mk (i + 1) (by omega) ⟨by omega, ?_⟩ ?_
            · intro c hc3
              rw [take_succ_getD _ _ (by omega)] at hc3
              rcases List.mem_append.1 hc3 with hc3 | hc3
              · exact h2 c hc3
              · obtain rfl := List.mem_singleton.1 hc3
                rw [isD_iff]; omega
            · simp (maxSteps := 10000000) only [isE_nil, is_cons, bo_p, all_nil', ↓sx, sx, ↓reduceIte, Nat.reduceEqDiff]
              rw [i64_id (by omega) (by omega)]
              rfl
      · obtain rfl : i = l.length := by omega
        rw [List.take_length] at h2
        have : isNat l = true := isNat_iff.2 ⟨hz.1, h2, hz.2⟩
        rw [this]
theorem chunk_eq (l : List UInt8) (k : Nat) (hk : k ≤ l.length) : natOf (l.take k) = natOf ((l.take k).drop (k - 9)) + 1000000000 * natOf (l.take (k - 9)) := by
  have h1 : l.take k = (l.take k).take (k - 9) ++ (l.take k).drop (k - 9) := (List.take_append_drop _ _).symm
  have h2 : (l.take k).take (k - 9) = l.take (k - 9) := by rw [List.take_take]; congr 1; omega
  rw [h2] at h1
  conv => lhs; rw [h1, natOf_append]
  have hlen : ((l.take k).drop (k - 9)).length = k - (k - 9) := by rw [List.length_drop, List.length_take]; omega
  rw [hlen]
  by_cases h9 : 9 ≤ k
  · rw [show k - (k - 9) = 9 by omega]; omega
  · rw [show k - 9 = 0 by omega, List.take_zero, natOf_nil]; omega
set_option maxRecDepth 100000 in
set_option maxHeartbeats 20000000 in
theorem nread_n (l : List UInt8) (hd : ∀ c ∈ l, isD c = true) (hl : l.length < 1000000) : Meets Tryz.prog Gd 174 [strP l] (nP (natOf l)) := by
  refine meets_of_vc (Y := {}) (N := 31) (rs := [.tmp 2]) mix tk gd Tryz.func174 rfl (by kernel_rfl) rfl rfl (by simp) (by kernel_rfl) ?_
  simp (maxSteps := 10000000) only [↓sx, sx, ↓ty, ↓reduceIte, Nat.reduceEqDiff, strP_c]
  refine loopK_of (fun s : Nat × List Int => [(0, .p (.val (.string ⟨(l.take s.1).toArray⟩))), (3, .orow 3)]) (fun _ => []) (fun s => [(3, ⟨109, 1, s.2.length, s.2.map wv, false⟩)]) (fun s => s.1 ≤ l.length ∧ s.1 + s.2.length ≤ l.length ∧ Dig s.2 ∧ val s.2 + 1000000000 ^ s.2.length * (natOf (l.take s.1) : Nat) = (natOf l : Nat)) (fun s => s.1) (l.length, []) ⟨Nat.le_refl _, Nat.le_refl _, Dig.nil, by simp [val]⟩ ?_ ?_
  · simp (maxSteps := 10000000) only [isE_nil, is_cons, bo_p, bo_orow, any_cons', all_cons', all_nil', Bool.true_or, ↓sx, sx, ↓reduceIte, Nat.reduceEqDiff]
    simp
  · rintro ⟨k, out⟩ ⟨h1, h2, h3, h4⟩
    dsimp only at h1 h2 h3 h4 ⊢
    have hlk : (l.take k).length = k := by rw [List.length_take]; omega
    simp (maxSteps := 10000000) only [↓sx, sx, ↓ty, ↓reduceIte, Nat.reduceEqDiff, hlk]
    refine vcIf_dec (fun hk => ?_) (fun hk => ?_)
    · have hmx : (if (0 : Int) > IntKind.i64.wrap ((k : Int) - 9) then 0 else IntKind.i64.wrap ((k : Int) - 9)) = ((k - 9 : Nat) : Int) := by
        rw [i64_id (by omega) (by omega)]; split <;> omega
      rw [hmx, Int.toNat_natCast]
      have hcl : ((l.take k).drop (k - 9)).length = k - (k - 9) := by rw [List.length_drop, hlk]
      have hcd : ∀ c ∈ (l.take k).drop (k - 9), isD c = true := fun c hc => hd c (List.mem_of_mem_take (List.mem_of_mem_drop hc))
      have hcn := natOf_lt _ hcd
      have hce := chunk_eq l k h1
      have hc9 : natOf ((l.take k).drop (k - 9)) < 1000000000 := by
        have : 10 ^ ((l.take k).drop (k - 9)).length ≤ 10 ^ 9 := Nat.pow_le_pow_right (by omega) (by omega)
        omega
      refine ⟨by omega, ?_⟩
      refine CallT.to (parse_n ((l.take k).drop (k - 9)) (by intro h0; rw [h0] at hcl; simp at hcl; omega) hcd (by omega)) (by rw [List.take_of_length_le (by omega)]; rfl) ?_
      simp (maxSteps := 10000000) only [↓sx, sx, ↓ty, ↓reduceIte, Nat.reduceEqDiff, Nat.reduceAdd, Nat.reduceLeDiff, Nat.reduceLT, ne_eq, not_false_eq_true, hlk]
      refine ⟨⟨by simp only [maxLen]; omega, by omega⟩, by omega, ?_⟩
      refine NextK.mk (k - 9, out ++ [((natOf ((l.take k).drop (k - 9)) : Nat) : Int)]) (by dsimp only; omega) ⟨by dsimp only; omega, by simp; omega, h3.snoc (by omega) (by omega), ?_⟩ ?_
      · dsimp only
        rw [val_snoc, List.length_append, List.length_singleton, Int.pow_succ, ← h4, hce]
        generalize natOf ((l.take k).drop (k - 9)) = x at *
        generalize natOf (l.take (k - 9)) = y at *
        rw [Int.natCast_add, Int.natCast_mul]
        grind
      · simp (maxSteps := 10000000) only [isE_nil, is_cons, bo_p, bo_orow, any_cons', all_cons', all_nil', Bool.true_or, ↓sx, sx, ↓reduceIte, Nat.reduceEqDiff]
        have e1 : (l.take k).take (k - 9) = l.take (k - 9) := by rw [List.take_take]; congr 1; omega
        rw [u32_id (x := ((natOf ((l.take k).drop (k - 9)) : Nat) : Int)) (by omega) (by omega)]
        simp [wv_c, e1]
    · obtain rfl : k = 0 := by omega
      rw [List.take_zero, natOf_nil] at h4
      refine CallT.mk (ntrim_n gd out (by omega) h3 (natOf l) (by omega)) ?_
      simp (maxSteps := 10000000) only [↓sx, sx, ↓reduceIte]
end Go.Proofs.YtolehnkoocnenaaGreatDoor.S
namespace Go.Proofs.YtolehnkoocnenaaGreatDoor.S
open Go Go.Sx Go.RowKit Gb
theorem nvalid_d (n : Nat) (h : Lw n < 1000000) : Meets Tryz.prog Gd 130 [dP n] (.val (.bool true)) := by
  have := nvalid_n (Lib.decDigits n) (by have := dec_len n; omega)
  rwa [isNat_dec] at this
theorem nread_d (n : Nat) (h : Lw n < 100000) : Meets Tryz.prog Gd 174 [dP n] (nP n) := by
  have := nread_n (Lib.decDigits n) (dec_isD n) (by have := dec_len n; omega)
  rwa [natOf_dec] at this
set_option maxRecDepth 100000 in
theorem nboth_n (a b : Nat) (ha : Lw a < 100000) (hb : Lw b < 100000) : Meets Tryz.prog Gd 158 [dP a, dP b] (.tup [nP a, nP b, .val (.int .i64 0)]) := by
  refine meets_of_vc (Y := {}) (N := 19) (rs := [.tmp 4, .tmp 5, .tmp 6]) mix tk gd Tryz.func158 rfl (by kernel_rfl) rfl rfl (by simp) (by kernel_rfl) ?_
  simp (maxSteps := 10000000) only [↓sx, sx, ↓ty, ↓reduceIte, Nat.reduceEqDiff, dP_c]
  refine CallT.mk (nvalid_d a (by omega)) ?_
  simp (maxSteps := 10000000) only [↓sx, sx, ↓reduceIte, Nat.reduceEqDiff, Nat.reduceLT]
  refine CallT.mk (nvalid_d b (by omega)) ?_
  simp (maxSteps := 10000000) only [↓sx, sx, ↓reduceIte, Nat.reduceEqDiff, Nat.reduceLT]
  refine CallT.mk (nread_d a ha) ?_
  simp (maxSteps := 10000000) only [↓sx, sx, ↓reduceIte, Nat.reduceEqDiff, nP_c]
  refine CallT.mk (nread_d b hb) ?_
  simp (maxSteps := 10000000) only [↓sx, sx, ↓reduceIte, Nat.reduceEqDiff, nP_c]
set_option maxRecDepth 100000 in
theorem napply_n (g : FuncId) (a b r : Nat) (h : Meets Tryz.prog Gd g [nP a, nP b] (nP r)) (hr : Lw r < 1000000) : Meets Tryz.prog Gd 159 [.clo g [nP a] [], nP b] (.tup [dP r, .val (.int .i64 0)]) := by
  refine meets_of_vc (Y := {}) (N := 10) (rs := [.tmp 4, .tmp 5]) mix tk gd Tryz.func159 rfl (by kernel_rfl) rfl rfl (by simp) (by kernel_rfl) ?_
  simp (maxSteps := 10000000) only [↓sx, sx, ↓reduceIte, Nat.reduceEqDiff, dP_c, nP_c]
  refine CallT.mk h ?_
  simp (maxSteps := 10000000) only [↓sx, sx, ↓reduceIte, nP_c]
  refine CallT.mk (text_n r hr) ?_
  simp (maxSteps := 10000000) only [↓sx, sx, strP_c]
set_option maxRecDepth 100000 in
theorem nadd_n (a b : Nat) (ha : Lw a < 100000) (hb : Lw b < 100000) : Meets Tryz.prog Gd 161 [dP a, dP b] (.tup [dP (a + b), .val (.int .i64 0)]) := by
  refine meets_of_vc (Y := {}) (N := 25) (rs := [.tmp 4, .tmp 5]) mix tk gd Tryz.func161 rfl (by kernel_rfl) rfl rfl (by simp) (by kernel_rfl) ?_
  simp (maxSteps := 10000000) only [↓sx, sx, ↓reduceIte, Nat.reduceEqDiff, dP_c]
  refine CallT.mk (nboth_n a b ha hb) ?_
  simp (maxSteps := 10000000) only [↓sx, sx, ↓reduceIte, Nat.reduceEqDiff, Int.reduceBNe, nP_c]
  refine CallT.mk (napply_n _ a b (a + b) (nplus_n gd a b (by omega) (by omega)) (by have := Lw_add a b; omega)) ?_
  simp (maxSteps := 10000000) only [↓sx, sx, dP_c]
set_option maxRecDepth 100000 in
theorem nsub_n (a b : Nat) (ha : Lw a < 100000) (hb : Lw b < 100000) (hle : b ≤ a) : Meets Tryz.prog Gd 163 [dP a, dP b] (.tup [dP (a - b), .val (.int .i64 0)]) := by
  refine meets_of_vc (Y := {}) (N := 31) (rs := [.tmp 4, .tmp 5]) mix tk gd Tryz.func163 rfl (by kernel_rfl) rfl rfl (by simp) (by kernel_rfl) ?_
  simp (maxSteps := 10000000) only [↓sx, sx, ↓reduceIte, Nat.reduceEqDiff, dP_c]
  refine CallT.mk (nboth_n a b ha hb) ?_
  simp (maxSteps := 10000000) only [↓sx, sx, ↓reduceIte, Nat.reduceEqDiff, Int.reduceBNe, nP_c]
  refine CallT.mk (ncmp_n gd a b (by omega) (by omega)) ?_
  simp (maxSteps := 10000000) only [↓sx, sx, ↓reduceIte, Nat.reduceEqDiff, iP_c]
  refine vcIf_dec (fun h => ?_) (fun h => ?_)
  · exfalso
    unfold cmpI at h
    rw [if_neg (by omega)] at h
    split at h <;> omega
  · refine CallT.mk (napply_n _ a b (a - b) (nminus_n gd a b (by omega) (by omega) hle) (by have := Lw_mono (Nat.sub_le a b); omega)) ?_
    simp (maxSteps := 10000000) only [↓sx, sx, dP_c]
set_option maxRecDepth 100000 in
theorem nmul_n (a b : Nat) (ha : Lw a < 100000) (hb : Lw b < 100000) : Meets Tryz.prog Gd 140 [dP a, dP b] (.tup [dP (a * b), .val (.int .i64 0)]) := by
  refine meets_of_vc (Y := {}) (N := 25) (rs := [.tmp 4, .tmp 5]) mix tk gd Tryz.func140 rfl (by kernel_rfl) rfl rfl (by simp) (by kernel_rfl) ?_
  simp (maxSteps := 10000000) only [↓sx, sx, ↓reduceIte, Nat.reduceEqDiff, dP_c]
  refine CallT.mk (nboth_n a b ha hb) ?_
  simp (maxSteps := 10000000) only [↓sx, sx, ↓reduceIte, Nat.reduceEqDiff, Int.reduceBNe, nP_c]
  refine CallT.mk (napply_n _ a b (a * b) (ntimes_n gd a b (by omega) (by omega)) (by have := Lw_mul a b; omega)) ?_
  simp (maxSteps := 10000000) only [↓sx, sx, dP_c]
set_option maxRecDepth 100000 in
theorem ngcdt_n (a b : Nat) (ha : Lw a < 100000) (hb : Lw b < 100000) : Meets Tryz.prog Gd 154 [dP a, dP b] (.tup [dP (Nat.gcd a b), .val (.int .i64 0)]) := by
  refine meets_of_vc (Y := {}) (N := 25) (rs := [.tmp 4, .tmp 5]) mix tk gd Tryz.func154 rfl (by kernel_rfl) rfl rfl (by simp) (by kernel_rfl) ?_
  simp (maxSteps := 10000000) only [↓sx, sx, ↓reduceIte, Nat.reduceEqDiff, dP_c]
  refine CallT.mk (nboth_n a b ha hb) ?_
  simp (maxSteps := 10000000) only [↓sx, sx, ↓reduceIte, Nat.reduceEqDiff, Int.reduceBNe, nP_c]
  have hg : Lw (Nat.gcd a b) < 1000000 := by
    by_cases h0 : a = 0
    · subst h0; rw [Nat.gcd_zero_left]; omega
    · have := Lw_mono (Nat.le_of_dvd (by omega) (Nat.gcd_dvd_left a b)); omega
  refine CallT.mk (napply_n _ a b (Nat.gcd a b) (ngcd_n gd a b (by omega) (by omega)) hg) ?_
  simp (maxSteps := 10000000) only [↓sx, sx, dP_c]
set_option maxRecDepth 100000 in
theorem ncompare_n (a b : Nat) (ha : Lw a < 100000) (hb : Lw b < 100000) : Meets Tryz.prog Gd 162 [dP a, dP b] (.tup [iP (cmpI a b), .val (.int .i64 0)]) := by
  refine meets_of_vc (Y := {}) (N := 22) (rs := [.tmp 4, .tmp 5]) mix tk gd Tryz.func162 rfl (by kernel_rfl) rfl rfl (by simp) (by kernel_rfl) ?_
  simp (maxSteps := 10000000) only [↓sx, sx, ↓reduceIte, Nat.reduceEqDiff, dP_c]
  refine CallT.mk (nboth_n a b ha hb) ?_
  simp (maxSteps := 10000000) only [↓sx, sx, ↓reduceIte, Nat.reduceEqDiff, Int.reduceBNe, nP_c]
  refine CallT.mk (ncmp_n gd a b (by omega) (by omega)) ?_
  simp (maxSteps := 10000000) only [↓sx, sx, iP_c]
set_option maxRecDepth 100000 in
theorem ndivmod_n (a b : Nat) (ha : Lw a < 100000) (hb : Lw b < 100000) (hb0 : 0 < b) : Meets Tryz.prog Gd 206 [dP a, dP b] (.tup [dP (a / b), dP (a % b), .val (.int .i64 0)]) := by
  refine meets_of_vc (Y := {}) (N := 37) (rs := [.tmp 4, .tmp 5, .tmp 6]) mix tk gd Tryz.func206 rfl (by kernel_rfl) rfl rfl (by simp) (by kernel_rfl) ?_
  simp (maxSteps := 10000000) only [↓sx, sx, ↓ty, ↓reduceIte, Nat.reduceEqDiff, dP_c]
  refine CallT.mk (nboth_n a b ha hb) ?_
  simp (maxSteps := 10000000) only [↓sx, sx, ↓reduceIte, Nat.reduceEqDiff, Int.reduceBNe, nP_c, len_Lw]
  refine vcIf_b (fun h => ?_) (fun h => ?_)
  · exfalso
    have : Lw b = 0 := by simpa using h
    have := (Lw_zero_iff b).1 this
    omega
  · refine CallT.mk (ndivide_n gd a b (by omega) (by omega) hb0) ?_
    simp (maxSteps := 10000000) only [↓sx, sx, ↓reduceIte, nP_c]
    refine CallT.mk (text_n (a / b) (by have := Lw_mono (Nat.div_le_self a b); omega)) ?_
    simp (maxSteps := 10000000) only [↓sx, sx, ↓reduceIte, Nat.reduceEqDiff, strP_c]
    refine CallT.mk (text_n (a % b) (by have := Lw_mono (Nat.le_of_lt (Nat.mod_lt a hb0)); omega)) ?_
    simp (maxSteps := 10000000) only [↓sx, sx, ↓reduceIte, Nat.reduceEqDiff, strP_c]
end Go.Proofs.YtolehnkoocnenaaGreatDoor.S
namespace Gb
open Go Go.RowKit Go.Sx
def cutM : List UInt8 → List UInt8 × Bool
  | [] => ([], false)
  | c :: r => if c = 45 then (r, true) else (c :: r, false)
theorem cutM_cons (c : UInt8) (r : List UInt8) : cutM (c :: r) = if c = 45 then (r, true) else (c :: r, false) := rfl
def nmP (z : Int) : PV := .agg [.val (.bool (decide (z < 0))), dP z.natAbs]
theorem nmP_c (z : Int) : nmP z = .agg [.val (.bool (decide (z < 0))), .val (.string ⟨(Lib.decDigits z.natAbs).toArray⟩)] := rfl
theorem isInt_cutM (l : List UInt8) : isInt l = (isNat (cutM l).1 && !((cutM l).2 == true && (cutM l).1 == [48])) := by
  cases l with
  | nil => rfl
  | cons c r =>
    rw [isInt_cons, cutM_cons]
    by_cases hc : c = 45
    · rw [if_pos hc, if_pos hc]; simp; rfl
    · rw [if_neg hc, if_neg hc]; simp
theorem cutM_int {l : List UInt8} (h : isInt l = true) : (PV.agg [.val (.bool (cutM l).2), strP (cutM l).1]) = nmP (intOf l) := by
  cases l with
  | nil => simp [isInt] at h
  | cons c r =>
    rw [isInt_cons] at h
    rw [cutM_cons, intOf_cons]
    by_cases hc : c = 45
    · rw [if_pos hc] at h ⊢
      rw [if_pos hc]
      simp only [Bool.and_eq_true, bne_iff_ne] at h
      have h0 : natOf r ≠ 0 := fun h0 => h.2 (natOf_zero h.1 h0)
      unfold nmP dP
      rw [Int.natAbs_neg, Int.natAbs_natCast, dec_natOf h.1]
      have : decide (-(natOf r : Int) < 0) = true := by simp; omega
      rw [this]
    · rw [if_neg hc] at h ⊢
      rw [if_neg hc]
      unfold nmP dP
      rw [Int.natAbs_natCast, dec_natOf h]
      have : decide ((natOf (c :: r) : Int) < 0) = false := by simp
      rw [this]
theorem dec_is0 (n : Nat) : (Lib.decDigits n == [48]) = decide (n = 0) := by
  by_cases h : n = 0
  · subst h; rw [Lib.decDigits]; rfl
  · have := dec_pos_ne h
    simp [this, h]
end Gb
namespace Go.Proofs.YtolehnkoocnenaaGreatDoor.S
open Go Go.Sx Go.RowKit Gb
set_option maxRecDepth 100000 in
theorem hasp_n (l m : List UInt8) : Meets Tryz.prog Gd 193 [strP l, strP m] (.val (.bool (decide (m.length ≤ l.length) && l.take m.length == m))) := by
  refine meets_of_vc (Y := {}) (N := 18) (rs := [.tmp 4]) mix tk gd Tryz.func193 rfl (by kernel_rfl) rfl rfl (by simp) (by kernel_rfl) ?_
  simp (maxSteps := 10000000) only [↓sx, sx, ↓ty, ↓reduceIte, Nat.reduceEqDiff, Nat.reduceLT, strP_c]
  refine vcIf_dec (fun h => ?_) (fun h => ?_)
  · refine ⟨by omega, ?_⟩
    have : m.length ≤ l.length := by omega
    simp [this]
  · have : ¬ m.length ≤ l.length := by omega
    simp [this]
set_option maxRecDepth 100000 in
theorem cutp_n (l m : List UInt8) : Meets Tryz.prog Gd 173 [strP l, strP m] (if decide (m.length ≤ l.length) && l.take m.length == m then .tup [strP (l.drop m.length), .val (.bool true)] else .tup [strP l, .val (.bool false)]) := by
  refine meets_of_vc (Y := {}) (N := 15) (rs := [.tmp 4, .tmp 5]) mix tk gd Tryz.func173 rfl (by kernel_rfl) rfl rfl (by simp) (by kernel_rfl) ?_
  simp (maxSteps := 10000000) only [↓sx, sx, ↓ty, ↓reduceIte, Nat.reduceEqDiff, strP_c]
  refine CallT.mk (hasp_n l m) ?_
  simp (maxSteps := 10000000) only [↓sx, sx, ↓ty, ↓reduceIte, Nat.reduceEqDiff]
  refine vcIf_b (fun h => ?_) (fun h => ?_)
  · rw [Bool.not_eq_true'] at h
    rw [if_neg (by rw [h]; simp)]
  · rw [Bool.not_eq_false'] at h
    rw [if_pos h]
    simp only [Bool.and_eq_true, decide_eq_true_eq] at h
    refine ⟨by omega, ?_⟩
    simp [List.take_of_length_le]
set_option maxRecDepth 100000 in
theorem cutpp_n (l m : List UInt8) : Meets Tryz.prog Gd 157 [strP l, strP m] (if decide (m.length ≤ l.length) && l.take m.length == m then .tup [strP (l.drop m.length), .val (.bool true)] else .tup [strP l, .val (.bool false)]) := by
  refine meets_of_vc (Y := {}) (N := 11) (rs := [.tmp 4, .tmp 5]) mix tk gd Tryz.func157 rfl (by kernel_rfl) rfl rfl (by simp) (by kernel_rfl) ?_
  simp (maxSteps := 10000000) only [↓sx, sx, ↓reduceIte, Nat.reduceEqDiff, strP_c]
  refine CallT.mk (cutp_n l m) ?_
  by_cases h : (decide (m.length ≤ l.length) && l.take m.length == m) = true
  · rw [if_pos h]
    simp (maxSteps := 10000000) only [↓sx, sx, strP_c]
    rw [if_pos h]
  · rw [if_neg h]
    simp (maxSteps := 10000000) only [↓sx, sx, strP_c]
    rw [if_neg h]
theorem cutm_n (l : List UInt8) : Meets Tryz.prog Gd 157 [strP l, strP [45]] (.tup [strP (cutM l).1, .val (.bool (cutM l).2)]) := by
  have := cutpp_n l [45]
  cases l with
  | nil => exact this
  | cons c r =>
    rw [cutM_cons]
    by_cases hc : c = 45
    · subst hc
      rw [if_pos rfl]
      rw [if_pos (by simp)] at this
      exact this
    · rw [if_neg hc]
      rw [if_neg (by simp [hc])] at this
      exact this
set_option maxRecDepth 100000 in
theorem iread_n (l : List UInt8) (hl : l.length < 10000000) : Meets Tryz.prog Gd 138 [strP l] (.tup [.agg [.val (.bool (cutM l).2), strP (cutM l).1], .val (.bool (isInt l))]) := by
  refine meets_of_vc (Y := { ex := [3] }) (N := 23) (rs := [.cell 2 118, .tmp 3]) mix tk gd Tryz.func138 rfl (by kernel_rfl) rfl rfl (by simp) (by kernel_rfl) ?_
  simp (maxSteps := 10000000) only [↓sx, sx, ↓ty, ↓reduceIte, Nat.reduceEqDiff, Nat.reduceAdd, Nat.reduceLeDiff, List.getElem?_cons_zero, List.getElem?_cons_succ, and_self, Bool.and_self, Nat.reduceAdd, Nat.le_refl, strP_c]
  refine CallT.mk (cutm_n l) ?_
  simp (maxSteps := 10000000) only [↓sx, sx, ↓ty, ↓reduceIte, Nat.reduceEqDiff, Nat.reduceAdd, Nat.reduceLeDiff, List.getElem?_cons_zero, List.getElem?_cons_succ, and_self, Bool.and_self, Nat.reduceAdd, Nat.le_refl, strP_c]
  refine ⟨by kernel_rfl, ?_⟩
  have hlen : (cutM l).1.length < 100000000 := by
    cases l with
    | nil => simp [cutM]
    | cons c r => rw [cutM_cons]; simp at hl; split <;> simp <;> omega
  refine CallT.mk (nvalid_n (cutM l).1 hlen) ?_
  simp (maxSteps := 10000000) only [↓sx, sx, ↓ty, ↓reduceIte, Nat.reduceEqDiff, Nat.reduceAdd, Nat.reduceLT, and_self, Bool.and_self, Nat.reduceAdd, Nat.le_refl, ag]
  refine vcIf_b (fun h => ?_) (fun h => ?_)
  · rw [isInt_cutM, h, Bool.true_and]
  · rw [isInt_cutM, h, Bool.false_and]
set_option maxRecDepth 100000 in
theorem zero_n : Meets Tryz.prog Gd 139 [] (nmP 0) := by
  refine meets_of_vc (Y := {}) (N := 2) (rs := [.cell 0 118]) mix tk gd Tryz.func139 rfl (by kernel_rfl) rfl rfl (by simp) (by kernel_rfl) ?_
  simp (maxSteps := 10000000) only [↓sx, sx, ↓ty, ↓reduceIte, Nat.reduceEqDiff, Nat.reduceAdd, Nat.reduceLeDiff, List.getElem?_cons_zero, List.getElem?_cons_succ, and_self, Bool.and_self, Nat.reduceAdd, Nat.le_refl]
  rw [nmP_c, show (0 : Int).natAbs = 0 from rfl, Lib.decDigits]
  rfl
set_option maxRecDepth 100000 in
theorem with_n (b : Bool) (n : Nat) (z : Int) (hz : zmk b n = z) : Meets Tryz.prog Gd 141 [.val (.bool b), dP n] (nmP z) := by
  subst hz
  refine meets_of_vc (Y := {}) (N := 12) (rs := [.cell 4 118]) mix tk gd Tryz.func141 rfl (by kernel_rfl) rfl rfl (by simp) (by kernel_rfl) ?_
  simp (maxSteps := 10000000) only [↓sx, sx, ↓ty, ↓reduceIte, Nat.reduceEqDiff, Nat.reduceAdd, Nat.reduceLeDiff, Nat.reduceLT, List.getElem?_cons_zero, List.getElem?_cons_succ, and_self, Bool.and_self, Nat.reduceAdd, Nat.le_refl, dP_c, nmP_c, zmk_abs]
  refine vcIf_b (fun h => ?_) (fun h => ?_)
  · subst h
    have : (!(Lib.decDigits n == [48])) = decide (zmk true n < 0) := by
      rw [dec_is0]
      unfold zmk
      by_cases h0 : n = 0
      · subst h0; rfl
      · simp [h0]; omega
    rw [← this]
  · subst h
    have : decide (zmk false n < 0) = false := by unfold zmk; simp
    rw [this]
end Go.Proofs.YtolehnkoocnenaaGreatDoor.S
namespace Gb
open Go
theorem ne0_iff (z : Int) : (decide (z < 0) == false && Lib.decDigits z.natAbs == [48]) = decide (z = 0) := by
  rw [dec_is0]
  by_cases h : z = 0
  · subst h; rfl
  · have : z.natAbs ≠ 0 := by omega
    simp [h]
end Gb
namespace Go.Proofs.YtolehnkoocnenaaGreatDoor.S
open Go Go.Sx Go.RowKit Gb
set_option maxRecDepth 100000 in
theorem itext_n (z : Int) (hz : Lw z.natAbs < 1000000) : Meets Tryz.prog Gd 108 [nmP z] (siP z) := by
  refine meets_of_vc (Y := {}) (N := 10) (rs := [.tmp 2]) mix tk gd Tryz.func108 rfl (by kernel_rfl) rfl rfl (by simp) (by kernel_rfl) ?_
  simp (maxSteps := 10000000) only [↓sx, sx, ↓ty, ↓reduceIte, Nat.reduceEqDiff, Nat.reduceAdd, ne_eq, not_false_eq_true, List.getElem?_cons_zero, List.getElem?_cons_succ, Nat.reduceAdd, nmP_c, siP_c]
  have := dec_len z.natAbs
  refine vcIf_dec (fun h => ?_) (fun h => ?_)
  · refine ⟨by omega, ?_⟩
    unfold iD
    rw [if_pos h]
  · unfold iD
    rw [if_neg h]
set_option maxRecDepth 100000 in
theorem iopp_n (z : Int) : Meets Tryz.prog Gd 110 [nmP z] (nmP (-z)) := by
  refine meets_of_vc (Y := {}) (N := 9) (rs := [.cell 2 118]) mix tk gd Tryz.func110 rfl (by kernel_rfl) rfl rfl (by simp) (by kernel_rfl) ?_
  simp (maxSteps := 10000000) only [↓sx, sx, ↓ty, ↓reduceIte, Nat.reduceEqDiff, Nat.reduceAdd, ne_eq, not_false_eq_true, List.getElem?_cons_zero, List.getElem?_cons_succ, Nat.reduceAdd, nmP_c]
  refine CallT.mk (with_n (!decide (z < 0)) z.natAbs (-z) ?_) ?_
  · by_cases h : z < 0
    · simp [zmk, h]; omega
    · simp [zmk, h]; omega
  · simp (maxSteps := 10000000) only [↓sx, sx, ↓ty, ↓reduceIte, Nat.reduceEqDiff, Nat.reduceAdd, and_self, Bool.and_self, Nat.reduceAdd, Nat.le_refl, nmP_c]
set_option maxRecDepth 100000 in
theorem isign_n (z : Int) : Meets Tryz.prog Gd 111 [nmP z] (iP z.sign) := by
  refine meets_of_vc (Y := {}) (N := 10) (rs := [.tmp 2]) mix tk gd Tryz.func111 rfl (by kernel_rfl) rfl rfl (by simp) (by kernel_rfl) ?_
  simp (maxSteps := 10000000) only [↓sx, sx, ↓ty, ↓reduceIte, Nat.reduceEqDiff, Nat.reduceAdd, Nat.reduceAdd, Nat.le_refl, nmP_c, iP_c]
  refine CallT.mk zero_n ?_
  simp (maxSteps := 10000000) only [↓sx, sx, ↓ty, ↓reduceIte, Nat.reduceEqDiff, Nat.reduceAdd, ne_eq, not_false_eq_true, List.getElem?_cons_zero, Bool.and_self, Nat.reduceAdd, nmP_c, ag]
  have e0 : decide ((0 : Int) < 0) = false := rfl
  have e1 : Lib.decDigits (0 : Int).natAbs = [48] := by rw [show (0 : Int).natAbs = 0 from rfl, Lib.decDigits]; rfl
  rw [e0, e1, ne0_iff]
  refine vcIf_dec (fun h => ?_) (fun h => ?_)
  · subst h; rfl
  · refine vcIf_dec (fun h2 => ?_) (fun h2 => ?_)
    · rw [Int.sign_eq_neg_one_of_neg h2]
    · rw [Int.sign_eq_one_of_pos (by omega)]
set_option maxRecDepth 100000 in
theorem isum_n (x y : Int) (hx : Lw x.natAbs < 100000) (hy : Lw y.natAbs < 100000) (h : x < 0 ↔ y < 0) : Meets Tryz.prog Gd 142 [nmP x, nmP y] (nmP (x + y)) := by
  refine meets_of_vc (Y := {}) (N := 19) (rs := [.cell 4 118]) mix tk gd Tryz.func142 rfl (by kernel_rfl) rfl rfl (by simp) (by kernel_rfl) ?_
  simp (maxSteps := 10000000) only [↓sx, sx, ↓ty, ↓reduceIte, Nat.reduceEqDiff, Nat.reduceAdd, ne_eq, not_false_eq_true, List.getElem?_cons_zero, List.getElem?_cons_succ, Nat.reduceAdd, nmP_c]
  refine CallT.mk (nadd_n x.natAbs y.natAbs hx hy) ?_
  simp (maxSteps := 10000000) only [↓sx, sx, ↓reduceIte, Nat.reduceEqDiff, Nat.reduceAdd, ne_eq, not_false_eq_true, Nat.reduceAdd, dP_c]
  refine CallT.mk (with_n (decide (x < 0)) (x.natAbs + y.natAbs) (x + y) ?_) ?_
  · by_cases hx0 : x < 0
    · simp [zmk, hx0]; omega
    · simp [zmk, hx0]; omega
  · simp (maxSteps := 10000000) only [↓sx, sx, ↓ty, ↓reduceIte, Nat.reduceEqDiff, Nat.reduceAdd, and_self, Bool.and_self, Nat.reduceAdd, Nat.le_refl, nmP_c]
set_option maxRecDepth 100000 in
theorem idiff_n (x y : Int) (hx : Lw x.natAbs < 100000) (hy : Lw y.natAbs < 100000) (h : ¬ (x < 0 ↔ y < 0)) : Meets Tryz.prog Gd 143 [nmP x, nmP y] (nmP (x + y)) := by
  refine meets_of_vc (Y := {}) (N := 33) (rs := [.cell 4 118]) mix tk gd Tryz.func143 rfl (by kernel_rfl) rfl rfl (by simp) (by kernel_rfl) ?_
  simp (maxSteps := 10000000) only [↓sx, sx, ↓ty, ↓reduceIte, Nat.reduceEqDiff, Nat.reduceAdd, ne_eq, not_false_eq_true, List.getElem?_cons_zero, List.getElem?_cons_succ, Nat.reduceAdd, nmP_c]
  refine CallT.mk (ncompare_n x.natAbs y.natAbs hx hy) ?_
  simp (maxSteps := 10000000) only [↓sx, sx, ↓ty, ↓reduceIte, Nat.reduceEqDiff, Nat.reduceAdd, ne_eq, not_false_eq_true, and_self, Bool.and_self, Nat.reduceAdd, Nat.le_refl, iP_c]
  refine vcIf_dec (fun hc => ?_) (fun hc => ?_)
  · have hle : x.natAbs ≤ y.natAbs := by
      unfold cmpI at hc
      split at hc
      · omega
      · split at hc <;> omega
    refine CallT.mk (nsub_n y.natAbs x.natAbs hy hx hle) ?_
    simp (maxSteps := 10000000) only [↓sx, sx, ↓reduceIte, Nat.reduceEqDiff, Nat.reduceAdd, ne_eq, not_false_eq_true, Nat.reduceAdd, dP_c]
    refine CallT.mk (with_n (decide (y < 0)) (y.natAbs - x.natAbs) (x + y) ?_) ?_
    · by_cases hy0 : y < 0
      · simp [zmk, hy0]; omega
      · simp [zmk, hy0]; omega
    · simp (maxSteps := 10000000) only [↓sx, sx, ↓ty, ↓reduceIte, Nat.reduceEqDiff, Nat.reduceAdd, and_self, Bool.and_self, Nat.reduceAdd, Nat.le_refl, nmP_c]
  · have hle : y.natAbs ≤ x.natAbs := by
      unfold cmpI at hc
      split at hc
      · omega
      · omega
    refine CallT.mk (nsub_n x.natAbs y.natAbs hx hy hle) ?_
    simp (maxSteps := 10000000) only [↓sx, sx, ↓reduceIte, Nat.reduceEqDiff, Nat.reduceAdd, ne_eq, not_false_eq_true, Nat.reduceAdd, dP_c]
    refine CallT.mk (with_n (decide (x < 0)) (x.natAbs - y.natAbs) (x + y) ?_) ?_
    · by_cases hx0 : x < 0
      · simp [zmk, hx0]; omega
      · simp [zmk, hx0]; omega
    · simp (maxSteps := 10000000) only [↓sx, sx, ↓ty, ↓reduceIte, Nat.reduceEqDiff, Nat.reduceAdd, and_self, Bool.and_self, Nat.reduceAdd, Nat.le_refl, nmP_c]
set_option maxRecDepth 100000 in
theorem ibit_n (b : Bool) : Meets Tryz.prog Gd 144 [.val (.bool b)] (iP (if b then 1 else 0)) := by
  refine meets_of_vc (Y := {}) (N := 4) (rs := [.tmp 2]) mix tk gd Tryz.func144 rfl (by kernel_rfl) rfl rfl (by simp) (by kernel_rfl) ?_
  simp (maxSteps := 10000000) only [↓sx, sx, ↓reduceIte, Nat.reduceEqDiff, iP_c]
  refine vcIf_b (fun h => ?_) (fun h => ?_)
  · subst h; rfl
  · subst h; rfl
set_option maxRecDepth 100000 in
theorem iplus_n (x y : Int) (hx : Lw x.natAbs < 100000) (hy : Lw y.natAbs < 100000) : Meets Tryz.prog Gd 109 [nmP x, nmP y] (nmP (x + y)) := by
  refine meets_of_vc (Y := {}) (N := 21) (rs := [.cell 4 118]) mix tk gd Tryz.func109 rfl (by kernel_rfl) rfl rfl (by simp) (by kernel_rfl) ?_
  by_cases hx0 : x < 0 <;> by_cases hy0 : y < 0
  · simp (maxSteps := 10000000) only [↓sx, sx, ↓ty, ↓reduceIte, Nat.reduceEqDiff, Nat.reduceAdd, Nat.reduceLeDiff, Nat.reduceMul, ne_eq, not_false_eq_true, List.getElem?_cons_zero, and_self, Bool.and_self, Nat.reduceAdd, Nat.le_refl, nmP_c]
    refine CallT.mk (ibit_n _) ?_
    simp (maxSteps := 10000000) only [↓sx, sx, ↓reduceIte, Nat.reduceEqDiff, Nat.reduceAdd, ne_eq, not_false_eq_true, Nat.reduceAdd, iP_c]
    refine CallT.mk (ibit_n _) ?_
    simp (maxSteps := 10000000) only [↓sx, sx, ↓ty, ↓reduceIte, Nat.reduceEqDiff, Nat.reduceAdd, Nat.reduceLT, Nat.reduceMul, Nat.reduceAdd, Nat.le_refl, iP_c, hx0, hy0, decide_true, Int.reduceToNat]
    refine ⟨by omega, by omega, ?_⟩
    refine CallT.to (isum_n x y hx hy (by omega)) (by simp [nmP_c, hx0, hy0]) ?_
    simp (maxSteps := 10000000) only [↓sx, sx, ↓reduceIte, Nat.reduceEqDiff, Nat.reduceAdd, and_self, Bool.and_self, Nat.reduceAdd, Nat.le_refl, nmP_c]
  · simp (maxSteps := 10000000) only [↓sx, sx, ↓ty, ↓reduceIte, Nat.reduceEqDiff, Nat.reduceAdd, Nat.reduceLeDiff, Nat.reduceMul, ne_eq, not_false_eq_true, List.getElem?_cons_zero, and_self, Bool.and_self, Nat.reduceAdd, Nat.le_refl, nmP_c]
    refine CallT.mk (ibit_n _) ?_
    simp (maxSteps := 10000000) only [↓sx, sx, ↓reduceIte, Nat.reduceEqDiff, Nat.reduceAdd, ne_eq, not_false_eq_true, Nat.reduceAdd, iP_c]
    refine CallT.mk (ibit_n _) ?_
    simp (maxSteps := 10000000) only [↓sx, sx, ↓ty, ↓reduceIte, Nat.reduceEqDiff, Nat.reduceAdd, Nat.reduceLT, Nat.reduceMul, Nat.reduceAdd, Nat.le_refl, iP_c, hx0, hy0, decide_true, decide_false, Int.reduceToNat]
    refine ⟨by omega, by omega, ?_⟩
    refine CallT.to (idiff_n x y hx hy (by omega)) (by simp [nmP_c, hx0, hy0]) ?_
    simp (maxSteps := 10000000) only [↓sx, sx, ↓reduceIte, Nat.reduceEqDiff, Nat.reduceAdd, and_self, Bool.and_self, Nat.reduceAdd, Nat.le_refl, nmP_c]
  · simp (maxSteps := 10000000) only [↓sx, sx, ↓ty, ↓reduceIte, Nat.reduceEqDiff, Nat.reduceAdd, Nat.reduceLeDiff, Nat.reduceMul, ne_eq, not_false_eq_true, List.getElem?_cons_zero, and_self, Bool.and_self, Nat.reduceAdd, Nat.le_refl, nmP_c]
    refine CallT.mk (ibit_n _) ?_
    simp (maxSteps := 10000000) only [↓sx, sx, ↓reduceIte, Nat.reduceEqDiff, Nat.reduceAdd, ne_eq, not_false_eq_true, Nat.reduceAdd, iP_c]
    refine CallT.mk (ibit_n _) ?_
    simp (maxSteps := 10000000) only [↓sx, sx, ↓ty, ↓reduceIte, Nat.reduceEqDiff, Nat.reduceAdd, Nat.reduceLT, Nat.reduceMul, Nat.reduceAdd, Nat.le_refl, iP_c, hx0, hy0, decide_true, decide_false, Int.reduceToNat]
    refine ⟨by omega, by omega, ?_⟩
    refine CallT.to (idiff_n x y hx hy (by omega)) (by simp [nmP_c, hx0, hy0]) ?_
    simp (maxSteps := 10000000) only [↓sx, sx, ↓reduceIte, Nat.reduceEqDiff, Nat.reduceAdd, and_self, Bool.and_self, Nat.reduceAdd, Nat.le_refl, nmP_c]
  · simp (maxSteps := 10000000) only [↓sx, sx, ↓ty, ↓reduceIte, Nat.reduceEqDiff, Nat.reduceAdd, Nat.reduceLeDiff, Nat.reduceMul, ne_eq, not_false_eq_true, List.getElem?_cons_zero, and_self, Bool.and_self, Nat.reduceAdd, Nat.le_refl, nmP_c]
    refine CallT.mk (ibit_n _) ?_
    simp (maxSteps := 10000000) only [↓sx, sx, ↓reduceIte, Nat.reduceEqDiff, Nat.reduceAdd, ne_eq, not_false_eq_true, Nat.reduceAdd, iP_c]
    refine CallT.mk (ibit_n _) ?_
    simp (maxSteps := 10000000) only [↓sx, sx, ↓ty, ↓reduceIte, Nat.reduceEqDiff, Nat.reduceAdd, Nat.reduceLT, Nat.reduceMul, Nat.reduceAdd, Nat.le_refl, iP_c, hx0, hy0, decide_false]
    refine ⟨by omega, by omega, ?_⟩
    refine CallT.to (isum_n x y hx hy (by omega)) (by simp [nmP_c, hx0, hy0]) ?_
    simp (maxSteps := 10000000) only [↓sx, sx, ↓reduceIte, Nat.reduceEqDiff, Nat.reduceAdd, and_self, Bool.and_self, Nat.reduceAdd, Nat.le_refl, nmP_c]
set_option maxRecDepth 100000 in
theorem itimes_n (x y : Int) (hx : Lw x.natAbs < 100000) (hy : Lw y.natAbs < 100000) : Meets Tryz.prog Gd 107 [nmP x, nmP y] (nmP (x * y)) := by
  refine meets_of_vc (Y := {}) (N := 22) (rs := [.cell 4 118]) mix tk gd Tryz.func107 rfl (by kernel_rfl) rfl rfl (by simp) (by kernel_rfl) ?_
  simp (maxSteps := 10000000) only [↓sx, sx, ↓ty, ↓reduceIte, Nat.reduceEqDiff, Nat.reduceAdd, ne_eq, not_false_eq_true, List.getElem?_cons_zero, List.getElem?_cons_succ, Nat.reduceAdd, nmP_c]
  refine CallT.mk (nmul_n x.natAbs y.natAbs hx hy) ?_
  simp (maxSteps := 10000000) only [↓sx, sx, ↓ty, ↓reduceIte, Nat.reduceEqDiff, Nat.reduceAdd, ne_eq, not_false_eq_true, Nat.reduceAdd, dP_c]
  refine CallT.mk (with_n (!decide (x < 0) == decide (y < 0)) (x.natAbs * y.natAbs) (x * y) ?_) ?_
  · conv => rhs; rw [← zmk_self x, ← zmk_self y]
    unfold zmk
    by_cases h1 : x < 0 <;> by_cases h2 : y < 0 <;> simp [h1, h2, Int.natCast_mul, Int.neg_mul, Int.mul_neg]
  · simp (maxSteps := 10000000) only [↓sx, sx, ↓ty, ↓reduceIte, Nat.reduceEqDiff, Nat.reduceAdd, and_self, Bool.and_self, Nat.reduceAdd, Nat.le_refl, nmP_c]
set_option maxRecDepth 100000 in
theorem idivide_n (x y : Int) (hx : Lw x.natAbs < 100000) (hy : Lw y.natAbs < 100000) (h0 : y ≠ 0) : Meets Tryz.prog Gd 223 [nmP x, nmP y] (.tup [nmP (x / y), nmP (x % y)]) := by
  refine meets_of_vc (Y := {}) (N := 45) (rs := [.cell 4 118, .cell 5 118]) mix tk gd Tryz.func223 rfl (by kernel_rfl) rfl rfl (by simp) (by kernel_rfl) ?_
  simp (maxSteps := 10000000) only [↓sx, sx, ↓ty, ↓reduceIte, Nat.reduceEqDiff, Nat.reduceAdd, ne_eq, not_false_eq_true, List.getElem?_cons_zero, List.getElem?_cons_succ, Nat.reduceAdd, nmP_c]
  refine CallT.mk (ndivmod_n x.natAbs y.natAbs hx hy (by omega)) ?_
  simp (maxSteps := 10000000) only [↓sx, sx, ↓ty, ↓reduceIte, Nat.reduceEqDiff, Nat.reduceAdd, Nat.reduceLT, ne_eq, not_false_eq_true, Nat.reduceAdd, dP_c]
  have hm : 0 < y.natAbs := by omega
  have hn : (x.natAbs : Int) = y.natAbs * (x.natAbs / y.natAbs : Nat) + (x.natAbs % y.natAbs : Nat) := by
    have := Nat.div_add_mod x.natAbs y.natAbs
    rw [← Int.natCast_mul, ← Int.natCast_add, this]
  have hr : x.natAbs % y.natAbs < y.natAbs := Nat.mod_lt _ hm
  have hq : Lw (x.natAbs / y.natAbs) ≤ Lw x.natAbs := Lw_mono (Nat.div_le_self _ _)
  have hrL : Lw (x.natAbs % y.natAbs) ≤ Lw y.natAbs := Lw_mono (by omega)
  generalize x.natAbs / y.natAbs = q at *
  generalize x.natAbs % y.natAbs = r at *
  have key : ∀ (b : Bool) (q' r' : Nat), zmk b q' * y + (r' : Int) = x → r' < y.natAbs → zmk b q' = x / y ∧ (r' : Int) = x % y := by
    intro b q' r' h1 h2
    have := euclid_unique h0 h1 (by omega) (by omega)
    exact ⟨this.1.symm, this.2.symm⟩
  have hy' : y = zmk (decide (y < 0)) y.natAbs := (zmk_self y).symm
  have e49 : (⟨#[49]⟩ : ByteArray) = ⟨(Lib.decDigits 1).toArray⟩ := by rw [Lib.decDigits]; rfl
  have fin : ∀ (q' r' : Nat), zmk (!decide (x < 0) == decide (y < 0)) q' = x / y → (r' : Int) = x % y → Meets Tryz.prog Gd 141 [.val (.bool (!decide (x < 0) == decide (y < 0))), dP q'] (nmP (x / y)) ∧ Meets Tryz.prog Gd 141 [.val (.bool false), dP r'] (nmP (x % y)) := by
    intro q' r' h1 h2
    exact ⟨with_n _ _ _ h1, with_n _ _ _ (by rw [← h2]; simp [zmk])⟩
  have rest : x < 0 → r ≠ 0 → zmk (!decide (x < 0) == decide (y < 0)) (q + 1) = x / y ∧ ((y.natAbs - r : Nat) : Int) = x % y := by
    intro hx0 hr0
    refine key (!decide (x < 0) == decide (y < 0)) (q + 1) (y.natAbs - r) ?_ (by omega)
    have e1 : ((y.natAbs - r : Nat) : Int) = y.natAbs - r := by omega
    rw [e1]
    conv => lhs; rw [hy', zmk_abs]
    unfold zmk
    by_cases hy0 : y < 0 <;> simp [hx0, hy0] <;> grind
  have plain : (x < 0 → r = 0) → zmk (!decide (x < 0) == decide (y < 0)) q = x / y ∧ (r : Int) = x % y := by
    intro hx0
    refine key (!decide (x < 0) == decide (y < 0)) q r ?_ hr
    rw [hy']
    unfold zmk
    by_cases hx1 : x < 0
    · have := hx0 hx1
      subst this
      by_cases hy0 : y < 0 <;> simp [hx1, hy0] <;> grind
    · by_cases hy0 : y < 0 <;> simp [hx1, hy0] <;> grind
  refine vcIf_dec (fun hx0 => vcIf_b (fun hr0 => ?_) (fun hr0 => ?_)) (fun hx0 => ?_)
  · have hr0 : r ≠ 0 := by
      intro h
      subst h
      rw [dec_is0] at hr0
      simp at hr0
    obtain ⟨k1, k2⟩ := rest hx0 hr0
    obtain ⟨f1, f2⟩ := fin (q + 1) (y.natAbs - r) k1 k2
    refine CallT.to (nadd_n q 1 (by omega) (by rw [Lw_one]; omega)) (by rw [e49]; rfl) ?_
    simp (maxSteps := 10000000) only [↓sx, sx, ↓reduceIte, Nat.reduceEqDiff, Nat.reduceAdd, ne_eq, not_false_eq_true, Nat.reduceAdd, dP_c]
    refine CallT.mk (nsub_n y.natAbs r hy (by omega) (by omega)) ?_
    simp (maxSteps := 10000000) only [↓sx, sx, ↓ty, ↓reduceIte, Nat.reduceEqDiff, Nat.reduceAdd, ne_eq, not_false_eq_true, Nat.reduceAdd, dP_c]
    refine CallT.mk f1 ?_
    simp (maxSteps := 10000000) only [↓sx, sx, ↓reduceIte, Nat.reduceEqDiff, nmP_c]
    refine CallT.mk f2 ?_
    simp (maxSteps := 10000000) only [↓sx, sx, ↓ty, ↓reduceIte, Nat.reduceEqDiff, Nat.reduceAdd, and_self, Bool.and_self, Nat.reduceAdd, Nat.le_refl, nmP_c]
  · have hr0 : r = 0 := by
      rw [dec_is0] at hr0
      simpa using hr0
    obtain ⟨k1, k2⟩ := plain (fun _ => hr0)
    obtain ⟨f1, f2⟩ := fin q r k1 k2
    refine CallT.mk f1 ?_
    simp (maxSteps := 10000000) only [↓sx, sx, ↓reduceIte, Nat.reduceEqDiff, nmP_c]
    refine CallT.mk f2 ?_
    simp (maxSteps := 10000000) only [↓sx, sx, ↓ty, ↓reduceIte, Nat.reduceEqDiff, Nat.reduceAdd, and_self, Bool.and_self, Nat.reduceAdd, Nat.le_refl, nmP_c]
  · obtain ⟨k1, k2⟩ := plain (fun h => absurd h hx0)
    obtain ⟨f1, f2⟩ := fin q r k1 k2
    refine CallT.mk f1 ?_
    simp (maxSteps := 10000000) only [↓sx, sx, ↓reduceIte, Nat.reduceEqDiff, nmP_c]
    refine CallT.mk f2 ?_
    simp (maxSteps := 10000000) only [↓sx, sx, ↓ty, ↓reduceIte, Nat.reduceEqDiff, Nat.reduceAdd, and_self, Bool.and_self, Nat.reduceAdd, Nat.le_refl, nmP_c]
end Go.Proofs.YtolehnkoocnenaaGreatDoor.S
namespace Gb
open Go Go.Sx
theorem e48 : (⟨#[48]⟩ : ByteArray) = ⟨(iD 0).toArray⟩ := by rw [show iD 0 = Lib.decDigits 0 from rfl, Lib.decDigits]; rfl
end Gb
namespace Go.Proofs.YtolehnkoocnenaaGreatDoor.S
open Go Go.Sx Go.RowKit Gb
theorem iread_d (z : Int) (h : Lw z.natAbs < 100000) : Meets Tryz.prog Gd 138 [siP z] (.tup [nmP z, .val (.bool true)]) := by
  have := iread_n (iD z) (by have := iD_len z; omega)
  rw [isInt_iD, cutM_int (isInt_iD z), intOf_iD] at this
  exact this
set_option maxRecDepth 100000 in
theorem iboth_n (x y : Int) (hx : Lw x.natAbs < 100000) (hy : Lw y.natAbs < 100000) : Meets Tryz.prog Gd 106 [siP x, siP y] (.tup [nmP x, nmP y, .val (.int .i64 0)]) := by
  refine meets_of_vc (Y := { ex := [5] }) (N := 31) (rs := [.cell 4 118, .cell 5 118, .tmp 6]) mix tk gd Tryz.func106 rfl (by kernel_rfl) rfl rfl (by simp) (by kernel_rfl) ?_
  simp (maxSteps := 10000000) only [↓sx, sx, ↓ty, ↓reduceIte, Nat.reduceEqDiff, siP_c]
  refine CallT.mk (iread_d x hx) ?_
  simp (maxSteps := 10000000) only [↓sx, sx, ↓ty, ↓reduceIte, Nat.reduceEqDiff, Nat.reduceAdd, and_self, Bool.and_self, Nat.reduceAdd, Nat.le_refl, nmP_c]
  refine CallT.mk (iread_d y hy) ?_
  simp (maxSteps := 10000000) only [↓sx, sx, ↓ty, ↓reduceIte, Nat.reduceEqDiff, Nat.reduceAdd, Nat.reduceLT, and_self, Bool.and_self, Nat.reduceAdd, Nat.le_refl, nmP_c]
  kernel_rfl
set_option maxRecDepth 100000 in
theorem ione_n (x : Int) (hx : Lw x.natAbs < 100000) : Meets Tryz.prog Gd 137 [siP x] (.tup [nmP x, .val (.int .i64 0)]) := by
  refine meets_of_vc (Y := {}) (N := 15) (rs := [.cell 2 118, .tmp 3]) mix tk gd Tryz.func137 rfl (by kernel_rfl) rfl rfl (by simp) (by kernel_rfl) ?_
  simp (maxSteps := 10000000) only [↓sx, sx, ↓ty, ↓reduceIte, Nat.reduceEqDiff, siP_c]
  refine CallT.to (iboth_n x 0 hx (by simp [Lw_zero])) (by rw [e48]; rfl) ?_
  simp (maxSteps := 10000000) only [↓sx, sx, ↓ty, ↓reduceIte, Nat.reduceEqDiff, Nat.reduceAdd, and_self, Bool.and_self, Nat.reduceAdd, Nat.le_refl, nmP_c]
set_option maxRecDepth 100000 in
theorem ivalid_n (l : List UInt8) (hl : l.length < 10000000) : Meets Tryz.prog Gd 129 [strP l] (.val (.bool (isInt l))) := by
  refine meets_of_vc (Y := {}) (N := 11) (rs := [.tmp 2]) mix tk gd Tryz.func129 rfl (by kernel_rfl) rfl rfl (by simp) (by kernel_rfl) ?_
  simp (maxSteps := 10000000) only [↓sx, sx, ↓ty, ↓reduceIte, Nat.reduceEqDiff, strP_c]
  refine CallT.mk (iread_n l hl) ?_
  simp (maxSteps := 10000000) only [↓sx, sx, ↓ty, ↓reduceIte, Nat.reduceEqDiff, Nat.reduceAdd, and_self, Bool.and_self, Nat.reduceAdd, Nat.le_refl, strP_c]
set_option maxRecDepth 100000 in
theorem isignt_n (x : Int) (hx : Lw x.natAbs < 100000) : Meets Tryz.prog Gd 105 [siP x] (.tup [iP x.sign, .val (.int .i64 0)]) := by
  refine meets_of_vc (Y := {}) (N := 14) (rs := [.tmp 2, .tmp 3]) mix tk gd Tryz.func105 rfl (by kernel_rfl) rfl rfl (by simp) (by kernel_rfl) ?_
  simp (maxSteps := 10000000) only [↓sx, sx, ↓ty, ↓reduceIte, Nat.reduceEqDiff, siP_c]
  refine CallT.mk (ione_n x hx) ?_
  simp (maxSteps := 10000000) only [↓sx, sx, ↓ty, ↓reduceIte, Nat.reduceEqDiff, Nat.reduceAdd, and_self, Bool.and_self, Nat.reduceAdd, Nat.le_refl, nmP_c]
  refine CallT.mk (isign_n x) ?_
  simp (maxSteps := 10000000) only [↓sx, sx, ↓reduceIte, Nat.reduceEqDiff, iP_c]
set_option maxRecDepth 100000 in
theorem iabs_n (x : Int) (hx : Lw x.natAbs < 100000) : Meets Tryz.prog Gd 153 [siP x] (.tup [dP x.natAbs, .val (.int .i64 0)]) := by
  refine meets_of_vc (Y := {}) (N := 16) (rs := [.tmp 2, .tmp 3]) mix tk gd Tryz.func153 rfl (by kernel_rfl) rfl rfl (by simp) (by kernel_rfl) ?_
  simp (maxSteps := 10000000) only [↓sx, sx, ↓ty, ↓reduceIte, Nat.reduceEqDiff, List.getElem?_cons_zero, List.getElem?_cons_succ, siP_c]
  refine CallT.mk (ione_n x hx) ?_
  simp (maxSteps := 10000000) only [↓sx, sx, ↓ty, ↓reduceIte, Nat.reduceEqDiff, Nat.reduceAdd, Int.reduceBNe, ne_eq, not_false_eq_true, and_self, Bool.and_self, Nat.reduceAdd, Nat.le_refl, nmP_c, dP_c]
set_option maxRecDepth 100000 in
theorem ineg_n (x : Int) (hx : Lw x.natAbs < 100000) : Meets Tryz.prog Gd 184 [siP x] (.tup [siP (-x), .val (.int .i64 0)]) := by
  refine meets_of_vc (Y := {}) (N := 17) (rs := [.tmp 2, .tmp 3]) mix tk gd Tryz.func184 rfl (by kernel_rfl) rfl rfl (by simp) (by kernel_rfl) ?_
  simp (maxSteps := 10000000) only [↓sx, sx, ↓ty, ↓reduceIte, Nat.reduceEqDiff, siP_c]
  refine CallT.mk (ione_n x hx) ?_
  simp (maxSteps := 10000000) only [↓sx, sx, ↓ty, ↓reduceIte, Nat.reduceEqDiff, Nat.reduceAdd, Int.reduceBNe, and_self, Bool.and_self, Nat.reduceAdd, Nat.le_refl, nmP_c]
  refine CallT.mk (iopp_n x) ?_
  simp (maxSteps := 10000000) only [↓sx, sx, ↓reduceIte, nmP_c]
  refine CallT.mk (itext_n (-x) (by rw [Int.natAbs_neg]; omega)) ?_
  simp (maxSteps := 10000000) only [↓sx, sx, siP_c]
set_option maxRecDepth 100000 in
theorem icompare_n (x y : Int) (hx : Lw x.natAbs < 100000) (hy : Lw y.natAbs < 100000) : Meets Tryz.prog Gd 64 [siP x, siP y] (.tup [iP (x - y).sign, .val (.int .i64 0)]) := by
  refine meets_of_vc (Y := {}) (N := 22) (rs := [.tmp 4, .tmp 5]) mix tk gd Tryz.func64 rfl (by kernel_rfl) rfl rfl (by simp) (by kernel_rfl) ?_
  simp (maxSteps := 10000000) only [↓sx, sx, ↓ty, ↓reduceIte, Nat.reduceEqDiff, siP_c]
  refine CallT.mk (iboth_n x y hx hy) ?_
  simp (maxSteps := 10000000) only [↓sx, sx, ↓ty, ↓reduceIte, Nat.reduceEqDiff, Nat.reduceAdd, and_self, Bool.and_self, Nat.reduceAdd, Nat.le_refl, nmP_c]
  refine CallT.mk (iopp_n y) ?_
  simp (maxSteps := 10000000) only [↓sx, sx, nmP_c]
  refine CallT.mk (iplus_n x (-y) hx (by rw [Int.natAbs_neg]; exact hy)) ?_
  simp (maxSteps := 10000000) only [↓sx, sx, nmP_c]
  refine CallT.mk (isign_n (x + -y)) ?_
  simp (maxSteps := 10000000) only [↓sx, sx, ↓reduceIte, iP_c]
  rw [Int.sub_eq_add_neg]
set_option maxRecDepth 100000 in
theorem iadd_n (x y : Int) (hx : Lw x.natAbs < 100000) (hy : Lw y.natAbs < 100000) : Meets Tryz.prog Gd 182 [siP x, siP y] (.tup [siP (x + y), .val (.int .i64 0)]) := by
  refine meets_of_vc (Y := {}) (N := 23) (rs := [.tmp 4, .tmp 5]) mix tk gd Tryz.func182 rfl (by kernel_rfl) rfl rfl (by simp) (by kernel_rfl) ?_
  simp (maxSteps := 10000000) only [↓sx, sx, ↓ty, ↓reduceIte, Nat.reduceEqDiff, siP_c]
  refine CallT.mk (iboth_n x y hx hy) ?_
  simp (maxSteps := 10000000) only [↓sx, sx, ↓ty, ↓reduceIte, Nat.reduceEqDiff, Nat.reduceAdd, Int.reduceBNe, and_self, Bool.and_self, Nat.reduceAdd, Nat.le_refl, nmP_c]
  refine CallT.mk (iplus_n x y hx hy) ?_
  simp (maxSteps := 10000000) only [↓sx, sx, ↓reduceIte, nmP_c]
  have hb : Lw (x + y).natAbs < 1000000 := by
    have h1 := Lw_mono (show (x + y).natAbs ≤ x.natAbs + y.natAbs by omega)
    have h2 := Lw_add x.natAbs y.natAbs
    omega
  refine CallT.mk (itext_n (x + y) hb) ?_
  simp (maxSteps := 10000000) only [↓sx, sx, siP_c]
set_option maxRecDepth 100000 in
theorem imul_n (x y : Int) (hx : Lw x.natAbs < 100000) (hy : Lw y.natAbs < 100000) : Meets Tryz.prog Gd 63 [siP x, siP y] (.tup [siP (x * y), .val (.int .i64 0)]) := by
  refine meets_of_vc (Y := {}) (N := 23) (rs := [.tmp 4, .tmp 5]) mix tk gd Tryz.func63 rfl (by kernel_rfl) rfl rfl (by simp) (by kernel_rfl) ?_
  simp (maxSteps := 10000000) only [↓sx, sx, ↓ty, ↓reduceIte, Nat.reduceEqDiff, siP_c]
  refine CallT.mk (iboth_n x y hx hy) ?_
  simp (maxSteps := 10000000) only [↓sx, sx, ↓ty, ↓reduceIte, Nat.reduceEqDiff, Nat.reduceAdd, Int.reduceBNe, and_self, Bool.and_self, Nat.reduceAdd, Nat.le_refl, nmP_c]
  refine CallT.mk (itimes_n x y hx hy) ?_
  simp (maxSteps := 10000000) only [↓sx, sx, ↓reduceIte, nmP_c]
  have hb : Lw (x * y).natAbs < 1000000 := by
    rw [Int.natAbs_mul]
    have h2 := Lw_mul x.natAbs y.natAbs
    omega
  refine CallT.mk (itext_n (x * y) hb) ?_
  simp (maxSteps := 10000000) only [↓sx, sx, siP_c]
set_option maxRecDepth 100000 in
theorem idivmod_n (x y : Int) (hx : Lw x.natAbs < 100000) (hy : Lw y.natAbs < 100000) (h0 : y ≠ 0) : Meets Tryz.prog Gd 205 [siP x, siP y] (.tup [siP (x / y), siP (x % y), .val (.int .i64 0)]) := by
  refine meets_of_vc (Y := {}) (N := 37) (rs := [.tmp 4, .tmp 5, .tmp 6]) mix tk gd Tryz.func205 rfl (by kernel_rfl) rfl rfl (by simp) (by kernel_rfl) ?_
  simp (maxSteps := 10000000) only [↓sx, sx, ↓ty, ↓reduceIte, Nat.reduceEqDiff, siP_c]
  refine CallT.mk (iboth_n x y hx hy) ?_
  simp (maxSteps := 10000000) only [↓sx, sx, ↓ty, ↓reduceIte, Nat.reduceEqDiff, Nat.reduceAdd, Int.reduceBNe, and_self, Bool.and_self, Nat.reduceAdd, Nat.le_refl, nmP_c]
  refine CallT.mk zero_n ?_
  simp (maxSteps := 10000000) only [↓sx, sx, ↓ty, ↓reduceIte, Nat.reduceEqDiff, Nat.reduceAdd, Bool.and_self, Nat.reduceAdd, Nat.le_refl, nmP_c, ag]
  have e0 : decide ((0 : Int) < 0) = false := rfl
  have e1 : Lib.decDigits (0 : Int).natAbs = [48] := by rw [show (0 : Int).natAbs = 0 from rfl, Lib.decDigits]; rfl
  rw [e0, e1, ne0_iff]
  refine vcIf_dec (fun h => absurd h h0) (fun _ => ?_)
  refine CallT.mk (idivide_n x y hx hy h0) ?_
  simp (maxSteps := 10000000) only [↓sx, sx, ↓ty, ↓reduceIte, Nat.reduceEqDiff, Nat.reduceAdd, and_self, Bool.and_self, Nat.reduceAdd, Nat.le_refl, nmP_c]
  have hb1 := Lw_ediv x y h0
  have hb2 := Lw_emod x y h0
  refine CallT.mk (itext_n (x / y) (by omega)) ?_
  simp (maxSteps := 10000000) only [↓sx, sx, ↓reduceIte, Nat.reduceAdd, Nat.reduceAdd, Nat.le_refl, siP_c]
  refine CallT.mk (itext_n (x % y) (by omega)) ?_
  simp (maxSteps := 10000000) only [↓sx, sx, siP_c]
end Go.Proofs.YtolehnkoocnenaaGreatDoor.S
namespace Go.Proofs.YtolehnkoocnenaaGreatDoor.S
open Go Go.Sx Go.RowKit Go.Shelf Gb
theorem set_push (a : Array Obj) (o o' : Obj) : (a.push o).setIfInBounds a.size o' = a.push o' := by
  apply Array.ext
  · simp
  · intro i h1 h2
    rw [Array.getElem_setIfInBounds (by simpa using h1), Array.getElem_push]
    rw [Array.getElem_push]
    simp only [Array.size_push] at h2
    split <;> split <;> first | rfl | omega
theorem set_alloc (w : World) (o o' : Obj) : ({ heap := (w.alloc o).heap.setIfInBounds w.heap.size o', tape := w.tape, drawn := w.drawn, os := (w.alloc o).os, output := (w.alloc o).output } : World) = w.alloc o' := by
  show ({ w with heap := (w.heap.push o).setIfInBounds w.heap.size o' } : World) = { w with heap := w.heap.push o' }
  rw [set_push]
def opsL : List (Int × FuncId) := [(43, 164), (42, 165), (45, 166), (47, 168)]
theorem run_ins (w : World) (es : Array MapEntry) (c : Nat) (k : Int) (g : FuncId) (h : Instr.findNow (.int .u8) (.int .u8 k) es.toList 0 = some none) :
    (Instr.mapUpdate 130 (.map (some w.heap.size)) (.int .u8 k) (.func (.func g) #[] #[])).run Tryz.prog (w.alloc (.map es c)) = .ok () (w.alloc (.map (es.push { key := .int .u8 k, val := .func (.func g) #[] #[], born := c }) (c + 1))) := by
  have hb : (w.alloc (.map es c)).heap[w.heap.size]? = some (.map es c) := by
    show (w.heap.push _)[w.heap.size]? = _
    simp
  have hm : Tryz.prog.underlying 130 = some (.map 5 129) := by kernel_rfl
  have hd : Tryz.prog.underlying 5 = some (.int .u8) := by kernel_rfl
  simp [Instr.mapUpdate, run_underlying hm, MapKept.run_getObj_map hb, MapKept.run_checkKey (k := .int .u8 k) hd (by simp [MapKept.IsKey]), MapKept.run_findKey hd h, MapKept.run_setObj_map _ hb, Result.andThen]
  exact set_alloc w _ _
theorem four (w : World) : ∃ E1 E2 E3 E4 : Array MapEntry, (Instr.mapUpdate 130 (.map (some w.heap.size)) (.int .u8 43) (.func (.func 164) #[] #[])).run Tryz.prog (w.alloc (.map #[] 0)) = .ok () (w.alloc (.map E1 1)) ∧
    (Instr.mapUpdate 130 (.map (some w.heap.size)) (.int .u8 42) (.func (.func 165) #[] #[])).run Tryz.prog (w.alloc (.map E1 1)) = .ok () (w.alloc (.map E2 2)) ∧
    (Instr.mapUpdate 130 (.map (some w.heap.size)) (.int .u8 45) (.func (.func 166) #[] #[])).run Tryz.prog (w.alloc (.map E2 2)) = .ok () (w.alloc (.map E3 3)) ∧
    (Instr.mapUpdate 130 (.map (some w.heap.size)) (.int .u8 47) (.func (.func 168) #[] #[])).run Tryz.prog (w.alloc (.map E3 3)) = .ok () (w.alloc (.map E4 4)) ∧
    E4.toList.map (fun e => (e.key, e.val)) = opsL.map fun x => (Value.int .u8 x.1, Value.func (.func x.2) ⟨[]⟩ ⟨[]⟩) :=
  ⟨_, _, _, _, run_ins w _ _ _ _ rfl, run_ins w _ _ _ _ rfl, run_ins w _ _ _ _ rfl, run_ins w _ _ _ _ rfl, rfl⟩
set_option maxHeartbeats 6400000 in
set_option maxRecDepth 100000 in
theorem operations_n : Meets Tryz.prog Gd 147 [] (.mp opsL) := by
  refine ⟨enters_of Tryz.func147 (by kernel_rfl) rfl, fun B vs w hB hr hG => ?_⟩
  simp only [RepL] at hr
  subst hr
  have hmm := @run_makeMap Tryz.prog
  obtain ⟨E1, E2, E3, E4, h1, h2, h3, h4, e⟩ := four w
  go_enter Tryz.func147, Tryz.ntmps147
  go_wp2
  go_ret
  refine ⟨_, rfl, ?_, ?_⟩
  · simp only [RepP]
    refine ⟨w.heap.size, E4, 4, rfl, ⟨.inr (Nat.le_refl _), ?_⟩, ?_, e⟩
    · show _ < (w.heap.push _).size
      simp
    · show (w.heap.push _)[w.heap.size]? = _
      simp
  · exact (Below.refl _ _).alloc (Nat.le_refl _) _
set_option maxRecDepth 100000 in
theorem all_n : Meets Tryz.prog Gd 120 [] (.mp opsL) := by
  refine meets_of_vc (Y := {}) (N := 2) (rs := [.tmp 0]) mix tk gd Tryz.func120 rfl (by kernel_rfl) rfl rfl (by simp) (by kernel_rfl) ?_
  simp (maxSteps := 10000000) only [↓sx, sx]
  refine CallT.mk operations_n ?_
  simp (maxSteps := 10000000) only [↓sx, sx, ↓reduceIte]
end Go.Proofs.YtolehnkoocnenaaGreatDoor.S
namespace Go.Proofs.YtolehnkoocnenaaGreatDoor.S
open Go Go.Sx Go.RowKit Gb Go.Shelf
theorem index_n (l : List UInt8) : Meets Tryz.prog Gd 171 [strP l, strP [47]] (iP (Lib.indexByte l 47)) := by
  refine meets_val [.string ⟨l.toArray⟩, .string ⟨#[47]⟩] (.int .i64 (Lib.indexByte l 47)) (enters_of Tryz.func171 (by kernel_rfl) rfl) ?_ ?_
  · intro B w
    simp only [iP, RepP]
  · intro w _
    refine (Tryz.stringslite_Index_one ⟨l.toArray⟩ 47 w).mono ?_
    rintro e w' ⟨rfl, rfl⟩
    exact ⟨rfl, Below.refl _ _⟩
set_option maxRecDepth 100000 in
theorem cuts_n (l : List UInt8) (hl : l.length < 10000000) : Meets Tryz.prog Gd 152 [strP l, strP [47]] (.tup [strP (cutW l).1, strP (cutW l).2.1, .val (.bool (cutW l).2.2)]) := by
  refine meets_of_vc (Y := {}) (N := 23) (rs := [.tmp 4, .tmp 5, .tmp 6]) mix tk gd Tryz.func152 rfl (by kernel_rfl) rfl rfl (by simp) (by kernel_rfl) ?_
  simp (maxSteps := 10000000) only [↓sx, sx, ↓reduceIte, Nat.reduceEqDiff, pc]
  refine CallT.mk (index_n l) ?_
  simp (maxSteps := 10000000) only [↓sx, sx, ↓ty, ↓reduceIte, Nat.reduceEqDiff, Nat.reduceAdd, pc, ls, Nat.reduceAdd]
  rcases idx_splitM l with ⟨h1, h2⟩ | ⟨n, h0, h1, h2⟩
  · rw [h1]
    have : cutW l = (l, [], false) := by unfold cutW; rw [h2]; rfl
    rw [this]
    refine vcIf_dec (fun h => by omega) (fun h => ?_)
    rfl
  · rw [h1]
    have : cutW l = (l.take n, l.drop (n + 1), true) := by unfold cutW; rw [h2]; rfl
    rw [this]
    refine vcIf_dec (fun h => ?_) (fun h => by omega)
    rw [i64_id (x := (n : Int) + ((1 : Nat) : Int)) (by omega) (by omega)]
    refine ⟨by omega, by omega, ?_⟩
    have e1 : ((n : Int) + ((1 : Nat) : Int)).toNat = n + 1 := by omega
    rw [e1]
    simp [List.take_of_length_le]
set_option maxRecDepth 100000 in
theorem cut_n (l : List UInt8) (hl : l.length < 10000000) : Meets Tryz.prog Gd 128 [strP l, strP [47]] (.tup [strP (cutW l).1, strP (cutW l).2.1, .val (.bool (cutW l).2.2)]) := by
  refine meets_of_vc (Y := {}) (N := 13) (rs := [.tmp 4, .tmp 5, .tmp 6]) mix tk gd Tryz.func128 rfl (by kernel_rfl) rfl rfl (by simp) (by kernel_rfl) ?_
  simp (maxSteps := 10000000) only [↓sx, sx, ↓reduceIte, Nat.reduceEqDiff, pc]
  refine CallT.mk (cuts_n l hl) ?_
  simp (maxSteps := 10000000) only [↓sx, sx, ↓reduceIte, Nat.reduceEqDiff, pc]
set_option maxRecDepth 100000 in
theorem ftext_n (x : Rat) (hx : Sz 50000 x) : Meets Tryz.prog Gd 121 [frP x] (rtP x) := by
  refine meets_of_vc (Y := {}) (N := 14) (rs := [.tmp 2]) mix tk gd Tryz.func121 rfl (by kernel_rfl) rfl rfl (by simp) (by kernel_rfl) ?_
  simp (maxSteps := 10000000) only [↓sx, sx, ↓ty, ↓reduceIte, Nat.reduceEqDiff, Nat.reduceAdd, ne_eq, not_false_eq_true, pc, ls, Nat.reduceAdd, pd, dec_eq1]
  have l1 := iD_len x.num
  have l2 := dec_len x.den
  have := hx.1; have := hx.2
  unfold rT
  refine vcIf_dec (fun h => ?_) (fun h => ?_)
  · rw [if_pos h]
  · rw [if_neg h]
    simp
    omega
set_option maxRecDepth 100000 in
theorem divisor_n (p : Int) (q : Nat) (hp : Lw p.natAbs < 100000) (hq : Lw q < 100000) : Meets Tryz.prog Gd 131 [siP p, dP q] (dP (Nat.gcd p.natAbs q)) := by
  refine meets_of_vc (Y := {}) (N := 21) (rs := [.tmp 4]) mix tk gd Tryz.func131 rfl (by kernel_rfl) rfl rfl (by simp) (by kernel_rfl) ?_
  simp (maxSteps := 10000000) only [↓sx, sx, ↓reduceIte, Nat.reduceEqDiff, pc]
  refine CallT.mk (iabs_n p hp) ?_
  simp (maxSteps := 10000000) only [↓sx, sx, ↓reduceIte, Nat.reduceEqDiff, pc]
  refine CallT.mk (ngcdt_n p.natAbs q hp hq) ?_
  simp (maxSteps := 10000000) only [↓sx, sx, ↓reduceIte, Nat.reduceEqDiff, pc]
set_option maxRecDepth 100000 in
theorem lowestp_n (p : Int) (q : Nat) (x : Rat) (hq : q ≠ 0) (h1 : Lw p.natAbs < 100000) (h2 : Lw q < 100000) (hx : Rat.normalize p q hq = x) : Meets Tryz.prog Gd 183 [siP p, dP q] (frP x) := by
  refine meets_of_vc (Y := {}) (N := 28) (rs := [.cell 4 78]) mix tk gd Tryz.func183 rfl (by kernel_rfl) rfl rfl (by simp) (by kernel_rfl) ?_
  have x1 : x.num = p / (p.natAbs.gcd q : Nat) := by rw [← hx, Rat.num_normalize]
  have x2 : x.den = q / p.natAbs.gcd q := by rw [← hx, Rat.den_normalize]
  clear hx
  simp (maxSteps := 10000000) only [↓sx, sx, ↓ty, ↓reduceIte, Nat.reduceEqDiff, pc]
  refine CallT.mk (divisor_n p q h1 h2) ?_
  have hdv : p.natAbs.gcd q ∣ p.natAbs := Nat.gcd_dvd_left _ _
  have hg0 : 0 < p.natAbs.gcd q := Nat.gcd_pos_of_pos_right _ (by omega)
  have hgl : Lw (p.natAbs.gcd q) ≤ Lw q := Lw_mono (Nat.gcd_le_right _ (by omega))
  generalize p.natAbs.gcd q = g at *
  simp (maxSteps := 10000000) only [↓sx, sx, ↓ty, ↓reduceIte, Nat.reduceEqDiff, Nat.reduceAdd, Nat.reduceLeDiff, pc, ls, bs, and_self, Nat.reduceAdd, Nat.le_refl, pd, dec_eq1]
  by_cases h1g : g = 1
  · subst h1g
    refine vcIf_b (fun h => by simp at h) (fun h => ?_)
    rw [x1, x2]
    simp
  · refine vcIf_b (fun h => ?_) (fun h => by simp [h1g] at h)
    refine CallT.to (idivmod_n p (g : Int) h1 (by rw [Int.natAbs_natCast]; omega) (by omega)) (by rw [siP_nat]; rfl) ?_
    simp (maxSteps := 10000000) only [↓sx, sx, ↓reduceIte, Nat.reduceEqDiff, pc]
    refine CallT.mk (ndivmod_n q g h2 (by omega) hg0) ?_
    simp (maxSteps := 10000000) only [↓sx, sx, ↓ty, ↓reduceIte, Nat.reduceEqDiff, Nat.reduceAdd, Nat.reduceLeDiff, pc, ls, bs, and_self, Nat.reduceAdd, Nat.le_refl, pd]
    rw [x1, x2]
end Go.Proofs.YtolehnkoocnenaaGreatDoor.S
namespace Go.Proofs.YtolehnkoocnenaaGreatDoor.S
open Go Go.Sx Go.RowKit Gb Go.Shelf
set_option maxRecDepth 100000 in
theorem fsign_n (x : Rat) (hx : Sz 50000 x) : Meets Tryz.prog Gd 62 [frP x] (iP x.num.sign) := by
  refine meets_of_vc (Y := {}) (N := 12) (rs := [.tmp 2]) mix tk gd Tryz.func62 rfl (by kernel_rfl) rfl rfl (by simp) (by kernel_rfl) ?_
  simp (maxSteps := 10000000) only [↓sx, sx, ↓ty, ↓reduceIte, Nat.reduceEqDiff, Nat.reduceAdd, ne_eq, not_false_eq_true, ls, Nat.reduceAdd, pd]
  refine CallT.mk (isignt_n x.num (by have := hx.1; omega)) ?_
  simp (maxSteps := 10000000) only [↓sx, sx, ↓reduceIte, Nat.reduceEqDiff, pc]
set_option maxRecDepth 100000 in
theorem fopp_n (x : Rat) (hx : Sz 50000 x) : Meets Tryz.prog Gd 167 [frP x] (frP (-x)) := by
  refine meets_of_vc (Y := {}) (N := 15) (rs := [.cell 2 78]) mix tk gd Tryz.func167 rfl (by kernel_rfl) rfl rfl (by simp) (by kernel_rfl) ?_
  simp (maxSteps := 10000000) only [↓sx, sx, ↓ty, ↓reduceIte, Nat.reduceEqDiff, Nat.reduceAdd, ne_eq, not_false_eq_true, ls, Nat.reduceAdd, pd]
  refine CallT.mk (ineg_n x.num (by have := hx.1; omega)) ?_
  simp (maxSteps := 10000000) only [↓sx, sx, ↓ty, ↓reduceIte, Nat.reduceEqDiff, Nat.reduceAdd, Nat.reduceLeDiff, ne_eq, not_false_eq_true, pc, ls, bs, and_self, Nat.reduceAdd, Nat.le_refl, pd]
  rw [Rat.neg_num, Rat.neg_den]
set_option maxRecDepth 100000 in
theorem finv_n (x : Rat) (hx : Sz 50000 x) (h0 : x ≠ 0) : Meets Tryz.prog Gd 169 [frP x] (frP x⁻¹) := by
  have hn : x.num ≠ 0 := by rwa [ne_eq, Rat.num_eq_zero]
  have l2 := dec_len x.den
  have := hx.2
  refine meets_of_vc (Y := {}) (N := 22) (rs := [.cell 2 78]) mix tk gd Tryz.func169 rfl (by kernel_rfl) rfl rfl (by simp) (by kernel_rfl) ?_
  simp (maxSteps := 10000000) only [↓sx, sx, ↓ty, ↓reduceIte, Nat.reduceEqDiff, Nat.reduceAdd, ne_eq, not_false_eq_true, ls, Nat.reduceAdd, pd]
  refine CallT.mk (cutm_n (iD x.num)) ?_
  have i1 : x⁻¹.num = x.num.sign * x.den := by rw [Rat.num_inv]
  have i2 : x⁻¹.den = x.num.natAbs := by rw [Rat.den_inv, if_neg hn]
  by_cases h : x.num < 0
  · have e1 : cutM (iD x.num) = (Lib.decDigits x.num.natAbs, true) := by unfold iD; rw [if_pos h, cutM_cons, if_pos rfl]
    rw [e1]
    simp (maxSteps := 10000000) only [↓sx, sx, ↓ty, ↓reduceIte, Nat.reduceEqDiff, Nat.reduceAdd, Nat.reduceLeDiff, ne_eq, not_false_eq_true, pc, ls, bs, and_self, Nat.reduceAdd, Nat.le_refl, pd]
    have e2 : iD (x.num.sign * x.den) = 45 :: Lib.decDigits x.den := by
      rw [Int.sign_eq_neg_one_of_neg h]
      have := x.den_nz
      unfold iD
      rw [if_pos (by omega)]
      congr 2
      omega
    rw [i1, i2, e2]
    simp
    omega
  · have e1 : cutM (iD x.num) = (Lib.decDigits x.num.natAbs, false) := by
      unfold iD
      rw [if_neg h]
      cases hl : Lib.decDigits x.num.natAbs with
      | nil => rfl
      | cons c r =>
        have := isNat_head (c := c) (r := r) (by rw [← hl]; exact isNat_dec _)
        rw [cutM_cons, if_neg this]
    rw [e1]
    simp (maxSteps := 10000000) only [↓sx, sx, ↓ty, ↓reduceIte, Nat.reduceEqDiff, Nat.reduceAdd, Nat.reduceLeDiff, ne_eq, not_false_eq_true, pc, ls, bs, and_self, Nat.reduceAdd, Nat.le_refl, pd]
    have e2 : iD (x.num.sign * x.den) = Lib.decDigits x.den := by
      rw [Int.sign_eq_one_of_pos (by omega), Int.one_mul, iD_nat]
    have e3 : iD x.num = Lib.decDigits x.num.natAbs := by unfold iD; rw [if_neg h]
    rw [i1, i2, e2, e3]
theorem parseI_n (z : Int) (h1 : -1000000000 < z) (h2 : z < 1000000000) : Meets Tryz.prog Gd 203 [siP z, iP 10, iP 64] (.tup [iP z, .val .nilIface]) := by
  refine meets_val [.string ⟨(iD z).toArray⟩, .int .i64 10, .int .i64 64] (.tuple ⟨[.int .i64 z, .nilIface]⟩) (enters_of Tryz.func203 (by kernel_rfl) rfl) ?_ ?_
  · intro B w
    simp [iP, RepP, RepL]
  · intro w _
    have := iD_len z
    have hl : Lw z.natAbs ≤ 1 := Lw_le (by show z.natAbs < 1000000000 ^ 1; omega)
    refine (Tryz.strconv_ParseInt_10_at64_ok ⟨(iD z).toArray⟩ (by show (iD z).toArray.size ≤ _; simp; omega) z (parseI z h1 h2) w).mono ?_
    rintro e w' ⟨rfl, hw⟩
    refine ⟨rfl, ?_⟩
    rcases hw with rfl | ⟨t, rfl⟩
    · exact Below.refl _ _
    · exact Lib.bytesWorld_below _ _ _
theorem formatI_n (z : Int) (h1 : -9223372036854775808 ≤ z) (h2 : z ≤ 9223372036854775807) : Meets Tryz.prog Gd 204 [iP z, iP 10] (siP z) := by
  refine meets_val [.int .i64 z, .int .i64 10] (.string ⟨(iD z).toArray⟩) (enters_of Tryz.func204 (by kernel_rfl) rfl) ?_ ?_
  · intro B w
    simp [siP_c, RepP]
  · intro w hw
    refine (Tryz.strconv_FormatInt_10 z h1 h2 w hw).mono ?_
    rintro e w' ⟨rfl, k, os, rfl⟩
    rw [itoa_iD]
    exact ⟨rfl, Lib.below_grow _ w (Nat.le_refl _) k os⟩
end Go.Proofs.YtolehnkoocnenaaGreatDoor.S
namespace Go.Proofs.YtolehnkoocnenaaGreatDoor.S
open Go Go.Sx Go.RowKit Gb Go.Shelf
set_option maxRecDepth 100000 in
set_option maxHeartbeats 4000000 in
theorem fread_n (l : List UInt8) (hl : l.length < 300000) : Meets Tryz.prog Gd 91 [strP l] (.tup [.agg [strP (splitM l).1, strP (splitM l).2.1], .val (.bool (isRat l))]) := by
  have hlen := splitM_len l
  have hs := splitM_inv l
  have hR : isRat l = (isInt (splitM l).1 && isNat (splitM l).2.1 && (!(splitM l).2.2 || (decide (1 < natOf (splitM l).2.1) && decide (intOf (splitM l).1 ≠ 0) && decide (Nat.gcd (intOf (splitM l).1).natAbs (natOf (splitM l).2.1) = 1)))) := rfl
  refine meets_of_vc (Y := {}) (N := 48) (rs := [.cell 2 78, .tmp 3]) mix tk gd Tryz.func91 rfl (by kernel_rfl) rfl rfl (by simp) (by kernel_rfl) ?_
  simp (maxSteps := 10000000) only [↓sx, sx, ↓ty, ↓reduceIte, Nat.reduceEqDiff, pc]
  refine CallT.mk (cut_n l (by omega)) ?_
  have hc : cutW l = if (splitM l).2.2 then splitM l else (l, [], false) := rfl
  rw [hc]
  clear hc
  generalize splitM l = q at *
  obtain ⟨p, d, s⟩ := q
  dsimp only at *
  cases s with
  | false =>
    have h3 : p = l ∧ d = [49] := by
      rcases hs with ⟨h, _⟩ | ⟨_, h, h2⟩
      · cases h
      · exact ⟨h.symm, h2⟩
    obtain ⟨rfl, rfl⟩ := h3
    simp only [Bool.false_eq_true, if_false]
    simp (maxSteps := 10000000) only [↓sx, sx, ↓ty, ↓reduceIte, Nat.reduceEqDiff, Nat.reduceAdd, Nat.reduceLeDiff, pc, ls, bs, and_self, Nat.reduceAdd, Nat.le_refl]
    refine CallT.mk (ivalid_n p (by omega)) ?_
    simp (maxSteps := 10000000) only [↓sx, sx, ↓ty, ↓reduceIte, Nat.reduceEqDiff, Nat.reduceAdd, pc, ls, bs, and_self, Nat.reduceAdd, Nat.le_refl]
    rw [hR]
    simp [show isNat [49] = true from by decide]
  | true =>
    simp only [if_true]
    simp (maxSteps := 10000000) only [↓sx, sx, ↓reduceIte, Nat.reduceEqDiff, pc]
    refine CallT.mk (ivalid_n p (by omega)) ?_
    simp (maxSteps := 10000000) only [↓sx, sx, ↓ty, ↓reduceIte, Nat.reduceEqDiff, Nat.reduceAdd, Nat.reduceLeDiff, Nat.reduceLT, pc, ls, bs, and_self, Nat.reduceAdd, Nat.le_refl]
    cases hp : isInt p with
    | false =>
      rw [hp] at hR
      simp only [Bool.false_and] at hR
      simp (maxSteps := 10000000) only [↓sx, sx]
      rw [hR]
    | true =>
      obtain ⟨z, rfl⟩ : ∃ z, p = iD z := ⟨_, (iD_intOf hp).symm⟩
      rw [intOf_iD, hp] at hR
      have lp := Lw_intOf hp
      rw [intOf_iD] at lp
      by_cases hz : z = 0
      · have hR : isRat l = false := by rw [hR]; simp [hz]
        have e1 : (iD z == [48]) = true := by rw [iD_eq0]; simp [hz]
        simp (maxSteps := 10000000) only [↓sx, sx, bs, e1]
        rw [hR]
      · have e1 : (iD z == [48]) = false := by rw [iD_eq0]; simp [hz]
        simp (maxSteps := 10000000) only [↓sx, sx, bs, e1]
        refine CallT.mk (nvalid_n d (by omega)) ?_
        simp (maxSteps := 10000000) only [↓sx, sx, ↓ty, ↓reduceIte, Nat.reduceEqDiff, Nat.reduceAdd, Nat.reduceLeDiff, Nat.reduceLT, pc, ls, bs, and_self, Nat.reduceAdd, Nat.le_refl]
        cases hd : isNat d with
        | false =>
          rw [hd] at hR
          simp only [Bool.false_and, Bool.and_false] at hR
          simp (maxSteps := 10000000) only [↓sx, sx]
          rw [hR]
        | true =>
          obtain ⟨n, rfl⟩ : ∃ n, d = Lib.decDigits n := ⟨_, (dec_natOf hd).symm⟩
          rw [natOf_dec, hd] at hR
          have ld := Lw_natOf (isNat_iff.1 hd).2.1
          rw [natOf_dec] at ld
          by_cases n0 : n = 0
          · have hR : isRat l = false := by rw [hR]; simp [n0]
            have e2 : (Lib.decDigits n == [48]) = true := by rw [dec_eq0]; simp [n0]
            simp (maxSteps := 10000000) only [↓sx, sx, bs, e2]
            rw [hR]
          · have e2 : (Lib.decDigits n == [48]) = false := by rw [dec_eq0]; simp [n0]
            by_cases n1 : n = 1
            · have hR : isRat l = false := by rw [hR]; simp [n1]
              have e3 : (Lib.decDigits n == [49]) = true := by rw [dec_eq1]; simp [n1]
              simp (maxSteps := 10000000) only [↓sx, sx, bs, e2, e3]
              rw [hR]
            · have e3 : (Lib.decDigits n == [49]) = false := by rw [dec_eq1]; simp [n1]
              simp (maxSteps := 10000000) only [↓sx, sx, bs, e2, e3]
              refine CallT.mk (divisor_n z n (by omega) (by omega)) ?_
              simp (maxSteps := 10000000) only [↓sx, sx, ↓ty, ↓reduceIte, Nat.reduceEqDiff, Nat.reduceAdd, Nat.reduceLeDiff, Nat.reduceLT, pc, ls, bs, and_self, Nat.reduceAdd, Nat.le_refl, dec_eq1]
              rw [hR]
              have : 1 < n := by omega
              simp [hz, this]
set_option maxRecDepth 100000 in
set_option maxHeartbeats 4000000 in
theorem flittle_s (x : Rat) (h : shortQ x = true) : Meets Tryz.prog Gd 180 [frP x] (.tup [iP x.num, iP x.den, .val (.bool true)]) := by
  have hs := shortQ_spec h
  unfold shortQ at h
  simp only [Bool.and_eq_true, decide_eq_true_eq] at h
  refine meets_of_vc (Y := {}) (N := 33) (rs := [.tmp 2, .tmp 3, .tmp 4]) mix tk gd Tryz.func180 rfl (by kernel_rfl) rfl rfl (by simp) (by kernel_rfl) ?_
  have e1 : decide (((iD x.num).length : Int) > 9) = false := by simp; omega
  have e2 : decide (((Lib.decDigits x.den).length : Int) > 9) = false := by simp; omega
  simp (maxSteps := 10000000) only [↓sx, sx, ↓ty, ↓reduceIte, Nat.reduceEqDiff, Nat.reduceAdd, Nat.reduceLT, ne_eq, not_false_eq_true, ls, Nat.reduceAdd, pd, e1, e2]
  refine CallT.mk (parseI_n x.num (by omega) (by omega)) ?_
  simp (maxSteps := 10000000) only [↓sx, sx, ↓ty, ↓reduceIte, Nat.reduceEqDiff, Nat.reduceAdd, ne_eq, not_false_eq_true, pc, ls, Nat.reduceAdd]
  refine CallT.to (parseI_n (x.den : Int) (by omega) (by omega)) (by rw [siP_nat]; rfl) ?_
  simp (maxSteps := 10000000) only [↓sx, sx, ↓reduceIte, Nat.reduceEqDiff, pc]
set_option maxRecDepth 100000 in
set_option maxHeartbeats 4000000 in
theorem flittle_l (x : Rat) (h : shortQ x = false) : Meets Tryz.prog Gd 180 [frP x] (.tup [iP 0, iP 0, .val (.bool false)]) := by
  unfold shortQ at h
  simp only [Bool.and_eq_false_iff, decide_eq_false_iff_not] at h
  refine meets_of_vc (Y := {}) (N := 33) (rs := [.tmp 2, .tmp 3, .tmp 4]) mix tk gd Tryz.func180 rfl (by kernel_rfl) rfl rfl (by simp) (by kernel_rfl) ?_
  by_cases h1 : (iD x.num).length ≤ 9
  · have e1 : decide (((iD x.num).length : Int) > 9) = false := by simp; omega
    have e2 : decide (((Lib.decDigits x.den).length : Int) > 9) = true := by simp; omega
    simp (maxSteps := 10000000) only [↓sx, sx, ↓ty, ↓reduceIte, Nat.reduceEqDiff, Nat.reduceAdd, Nat.reduceLT, ne_eq, not_false_eq_true, pc, ls, and_self, Nat.reduceAdd, pd, e1, e2]
  · have e1 : decide (((iD x.num).length : Int) > 9) = true := by simp; omega
    simp (maxSteps := 10000000) only [↓sx, sx, ↓ty, ↓reduceIte, Nat.reduceEqDiff, Nat.reduceAdd, Nat.reduceLT, ne_eq, not_false_eq_true, pc, ls, and_self, Nat.reduceAdd, pd, e1]
end Go.Proofs.YtolehnkoocnenaaGreatDoor.S
namespace Go.Proofs.YtolehnkoocnenaaGreatDoor.S
open Go Go.Sx Go.RowKit Gb Go.Shelf
set_option maxRecDepth 100000 in
set_option maxHeartbeats 4000000 in
theorem fof_n (p : Int) (q : Nat) (x : Rat) (hq : q ≠ 0) (h1 : p.natAbs < 4611686018427387904) (h2 : q < 4611686018427387904) (hx : Rat.normalize p q hq = x) : Meets Tryz.prog Gd 181 [iP p, iP q] (frP x) := by
  have x1 : x.num = p / (p.natAbs.gcd q : Nat) := by rw [← hx, Rat.num_normalize]
  have x2 : x.den = q / p.natAbs.gcd q := by rw [← hx, Rat.den_normalize]
  have hdv : p.natAbs.gcd q ∣ p.natAbs := Nat.gcd_dvd_left _ _
  have hdq : p.natAbs.gcd q ∣ q := Nat.gcd_dvd_right _ _
  have hg0 : 0 < p.natAbs.gcd q := Nat.gcd_pos_of_pos_right _ (by omega)
  have hgl : p.natAbs.gcd q ≤ q := Nat.gcd_le_right _ (by omega)
  clear hx
  refine meets_of_vc (Y := {}) (N := 28) (rs := [.cell 4 78]) mix tk gd Tryz.func181 rfl (by kernel_rfl) rfl rfl (by simp) (by kernel_rfl) ?_
  simp (maxSteps := 10000000) only [↓sx, sx, ↓ty, ↓reduceIte, Nat.reduceEqDiff, pc]
  refine loopK_of (fun s : Int × Int => [(0, .p (.val (.int .i64 p))), (1, .p (.val (.int .i64 q))), (4, .box 4 0), (5, .p (.val (.int .i64 s.1))), (6, .p (.val (.int .i64 s.2)))]) (fun _ => [(4, (78, [.val (.string ⟨#[]⟩), .val (.string ⟨#[]⟩)]))]) (fun _ => []) (fun s => s.1.natAbs < 4611686018427387904 ∧ s.2.natAbs < 4611686018427387904 ∧ s.1.natAbs.gcd s.2.natAbs = p.natAbs.gcd q) (fun s => s.2.natAbs) (p, (q : Int)) ⟨h1, by simpa using h2, by simp⟩ ?_ ?_
  · simp (maxSteps := 10000000) only [isE_nil, is_cons, bo_p, bo_box, any_cons', all_cons', all_nil', Bool.true_or, ↓sx, sx, ↓reduceIte, Nat.reduceEqDiff]
    exact ⟨rfl, rfl⟩
  · rintro ⟨a, b⟩ ⟨i1, i2, i3⟩
    dsimp only at i1 i2 i3
    simp (maxSteps := 10000000) only [↓sx, sx, ↓reduceIte, Nat.reduceEqDiff, ls]
    refine vcIf_b (fun hb => ?_) (fun hb => ?_)
    · have hb : b ≠ 0 := by simpa using hb
      have hm := tmod_natAbs a b
      have hlt : (a.tmod b).natAbs < b.natAbs := by rw [hm]; exact Nat.mod_lt _ (by omega)
      refine ⟨hb, NextK.mk (b, a.tmod b) hlt ⟨i2, by show (a.tmod b).natAbs < _; omega, ?_⟩ ?_⟩
      · show b.natAbs.gcd (a.tmod b).natAbs = _
        rw [hm, Nat.gcd_comm, ← Nat.gcd_rec, Nat.gcd_comm, i3]
      · simp (maxSteps := 10000000) only [isE_nil, is_cons, bo_p, bo_box, any_cons', all_cons', all_nil', Bool.true_or, ↓sx, sx, ↓reduceIte, Nat.reduceEqDiff]
    · have hb : b = 0 := by simpa using hb
      subst hb
      rw [Int.natAbs_zero, Nat.gcd_zero_right] at i3
      generalize p.natAbs.gcd q = g at *
      have e1 : (if IntKind.i64.wrap (0 - a) > a then IntKind.i64.wrap (0 - a) else a) = (g : Int) := by
        rw [i64_id (by omega) (by omega)]
        split <;> omega
      simp (maxSteps := 10000000) only [Int.reduceBNe, e1]
      have hgi : ¬ (g : Int) = 0 := by omega
      refine ⟨hgi, ?_⟩
      have q1 : p.tdiv g = p / g := tdiv_dvd hdv
      have q2 : (q : Int).tdiv g = ((q / g : Nat) : Int) := by rw [Int.ofNat_tdiv]
      have b1 : (p / (g : Int)).natAbs ≤ p.natAbs := by rw [Int.natAbs_ediv_of_dvd (Int.ofNat_dvd_left.2 hdv)]; exact Nat.div_le_self _ _
      have b2 : q / g ≤ q := Nat.div_le_self _ _
      rw [q1, i64_id (x := p / (g : Int)) (by omega) (by omega)]
      refine CallT.mk (formatI_n (p / (g : Int)) (by omega) (by omega)) ?_
      simp (maxSteps := 10000000) only [↓sx, sx, ↓reduceIte, Nat.reduceEqDiff, e1]
      refine ⟨hgi, ?_⟩
      rw [q2, i64_id (x := ((q / g : Nat) : Int)) (by omega) (by omega)]
      refine CallT.mk (formatI_n ((q / g : Nat) : Int) (by omega) (by omega)) ?_
      simp (maxSteps := 10000000) only [↓sx, sx, ↓ty, ↓reduceIte, Nat.reduceEqDiff, Nat.reduceAdd, Nat.reduceLeDiff, pc, ls, bs, and_self, Nat.reduceAdd, Nat.le_refl, pd]
      rw [x1, x2, iD_nat]
theorem scale_lt {a b : Int} {k m : Nat} (ha : a.natAbs < k) (hb : b.natAbs < m) (hk : 0 < k) : (a * b).natAbs < k * m := by
  rw [Int.natAbs_mul]
  have h1 : a.natAbs * b.natAbs ≤ a.natAbs * m := Nat.mul_le_mul_left _ (by omega)
  have h2 : a.natAbs * m < k * m := Nat.mul_lt_mul_of_pos_right ha (by omega)
  omega
set_option maxRecDepth 100000 in
set_option maxHeartbeats 4000000 in
theorem fplus_n (x y : Rat) (hx : Sz 20000 x) (hy : Sz 20000 y) : Meets Tryz.prog Gd 164 [frP x, frP y] (frP (x + y)) := by
  have a1 := hx.1
  have a2 := hx.2
  have a3 := hy.1
  have a4 := hy.2
  have b4 := Lw_mul x.den y.den
  have b5 := Lw_iadd (x.num * y.den) (y.num * x.den)
  have b6 := Lw_imul x.num y.den
  have b7 := Lw_imul y.num x.den
  rw [Int.natAbs_natCast] at b6 b7
  have hd0 := Nat.mul_ne_zero x.den_nz y.den_nz
  refine meets_of_vc (Y := {}) (N := 77) (rs := [.cell 4 78]) mix tk gd Tryz.func164 rfl (by kernel_rfl) rfl rfl (by simp) (by kernel_rfl) ?_
  simp (maxSteps := 10000000) only [↓sx, sx, ↓ty, ↓reduceIte, Nat.reduceEqDiff, Nat.reduceAdd, ls, Nat.reduceAdd, Nat.le_refl, pd]
  by_cases hb : shortQ x = true ∧ shortQ y = true
  · have s1 := shortQ_spec hb.1
    have s2 := shortQ_spec hb.2
    refine CallT.mk (flittle_s x hb.1) ?_
    simp (maxSteps := 10000000) only [↓sx, sx, ↓ty, ↓reduceIte, Nat.reduceEqDiff, Nat.reduceAdd, pc, ls, Nat.reduceAdd, Nat.le_refl]
    refine CallT.mk (flittle_s y hb.2) ?_
    simp (maxSteps := 10000000) only [↓sx, sx, ↓reduceIte, Nat.reduceEqDiff, Nat.reduceLT, pc]
    have m1 := scale_lt (a := x.num) (b := y.den) (k := 1000000000) (m := 1000000000) (by omega) (by omega) (by omega)
    have m2 := scale_lt (a := y.num) (b := x.den) (k := 1000000000) (m := 1000000000) (by omega) (by omega) (by omega)
    have m3 := scale_lt (a := x.den) (b := y.den) (k := 1000000000) (m := 1000000000) (by omega) (by omega) (by omega)
    have m4 : (x.den : Int) * y.den = ((x.den * y.den : Nat) : Int) := by rw [Int.natCast_mul]
    obtain ⟨D, hD⟩ : ∃ D, D = x.den * y.den := ⟨_, rfl⟩
    have hD0 : D ≠ 0 := by rw [hD]; exact hd0
    obtain ⟨X, hX⟩ : ∃ X, X = x.num * (y.den : Int) := ⟨_, rfl⟩
    obtain ⟨Y, hY⟩ : ∃ Y, Y = y.num * (x.den : Int) := ⟨_, rfl⟩
    have hdef : Rat.normalize (X + Y) D hD0 = x + y := by subst hD hX hY; exact (Rat.add_def x y).symm
    rw [m4, ← hD] at m3 ⊢
    rw [← hX] at m1 ⊢
    rw [← hY] at m2 ⊢
    clear hD hX hY m4 b4 b5 b6 b7 hd0
    rw [i64_id (x := X) (by omega) (by omega), i64_id (x := Y) (by omega) (by omega), i64_id (x := X + Y) (by omega) (by omega), i64_id (x := (D : Int)) (by omega) (by omega)]
    refine CallT.mk (fof_n (X + Y) D (x + y) hD0 (by omega) (by omega) hdef) ?_
    simp (maxSteps := 10000000) only [↓sx, sx, ↓ty, ↓reduceIte, Nat.reduceEqDiff, Nat.reduceAdd, ls, bs, and_self, Nat.reduceAdd, Nat.le_refl, pd]
  · cases hsx : shortQ x with
    | false =>
      refine CallT.mk (flittle_l x hsx) ?_
      simp (maxSteps := 10000000) only [↓sx, sx, ↓ty, ↓reduceIte, Nat.reduceEqDiff, Nat.reduceAdd, pc, ls, Nat.reduceAdd, Nat.le_refl]
      cases hsy : shortQ y with
      | false =>
        refine CallT.mk (flittle_l y hsy) ?_
        simp (maxSteps := 10000000) only [↓sx, sx, ↓ty, ↓reduceIte, Nat.reduceEqDiff, Nat.reduceAdd, Nat.reduceLT, ne_eq, not_false_eq_true, pc, ls, Nat.reduceAdd]
        refine CallT.to (imul_n x.num (y.den : Int) (by omega) (by rw [Int.natAbs_natCast]; omega)) (by rw [siP_nat]; rfl) ?_
        simp (maxSteps := 10000000) only [↓sx, sx, ↓ty, ↓reduceIte, Nat.reduceEqDiff, Nat.reduceAdd, ne_eq, not_false_eq_true, pc, ls, Nat.reduceAdd]
        refine CallT.to (imul_n y.num (x.den : Int) (by omega) (by rw [Int.natAbs_natCast]; omega)) (by rw [siP_nat]; rfl) ?_
        simp (maxSteps := 10000000) only [↓sx, sx, ↓reduceIte, Nat.reduceEqDiff, pc]
        refine CallT.mk (iadd_n (x.num * y.den) (y.num * x.den) (by omega) (by omega)) ?_
        simp (maxSteps := 10000000) only [↓sx, sx, ↓ty, ↓reduceIte, Nat.reduceEqDiff, Nat.reduceAdd, ne_eq, not_false_eq_true, pc, ls, Nat.reduceAdd]
        refine CallT.mk (nmul_n x.den y.den (by omega) (by omega)) ?_
        simp (maxSteps := 10000000) only [↓sx, sx, ↓reduceIte, Nat.reduceEqDiff, pc]
        refine CallT.mk (lowestp_n (x.num * y.den + y.num * x.den) (x.den * y.den) (x + y) hd0 (by omega) (by omega) (Rat.add_def x y).symm) ?_
        simp (maxSteps := 10000000) only [↓sx, sx, ↓ty, ↓reduceIte, Nat.reduceEqDiff, Nat.reduceAdd, ls, bs, and_self, Nat.reduceAdd, Nat.le_refl, pd]
      | true =>
        refine CallT.mk (flittle_s y hsy) ?_
        simp (maxSteps := 10000000) only [↓sx, sx, ↓ty, ↓reduceIte, Nat.reduceEqDiff, Nat.reduceAdd, Nat.reduceLT, ne_eq, not_false_eq_true, pc, ls, Nat.reduceAdd]
        refine CallT.to (imul_n x.num (y.den : Int) (by omega) (by rw [Int.natAbs_natCast]; omega)) (by rw [siP_nat]; rfl) ?_
        simp (maxSteps := 10000000) only [↓sx, sx, ↓ty, ↓reduceIte, Nat.reduceEqDiff, Nat.reduceAdd, ne_eq, not_false_eq_true, pc, ls, Nat.reduceAdd]
        refine CallT.to (imul_n y.num (x.den : Int) (by omega) (by rw [Int.natAbs_natCast]; omega)) (by rw [siP_nat]; rfl) ?_
        simp (maxSteps := 10000000) only [↓sx, sx, ↓reduceIte, Nat.reduceEqDiff, pc]
        refine CallT.mk (iadd_n (x.num * y.den) (y.num * x.den) (by omega) (by omega)) ?_
        simp (maxSteps := 10000000) only [↓sx, sx, ↓ty, ↓reduceIte, Nat.reduceEqDiff, Nat.reduceAdd, ne_eq, not_false_eq_true, pc, ls, Nat.reduceAdd]
        refine CallT.mk (nmul_n x.den y.den (by omega) (by omega)) ?_
        simp (maxSteps := 10000000) only [↓sx, sx, ↓reduceIte, Nat.reduceEqDiff, pc]
        refine CallT.mk (lowestp_n (x.num * y.den + y.num * x.den) (x.den * y.den) (x + y) hd0 (by omega) (by omega) (Rat.add_def x y).symm) ?_
        simp (maxSteps := 10000000) only [↓sx, sx, ↓ty, ↓reduceIte, Nat.reduceEqDiff, Nat.reduceAdd, ls, bs, and_self, Nat.reduceAdd, Nat.le_refl, pd]
    | true =>
      refine CallT.mk (flittle_s x hsx) ?_
      simp (maxSteps := 10000000) only [↓sx, sx, ↓ty, ↓reduceIte, Nat.reduceEqDiff, Nat.reduceAdd, pc, ls, Nat.reduceAdd, Nat.le_refl]
      have hsy : shortQ y = false := by cases h : shortQ y with | false => rfl | true => exact absurd ⟨hsx, h⟩ hb
      refine CallT.mk (flittle_l y hsy) ?_
      simp (maxSteps := 10000000) only [↓sx, sx, ↓ty, ↓reduceIte, Nat.reduceEqDiff, Nat.reduceAdd, Nat.reduceLT, ne_eq, not_false_eq_true, pc, ls, Nat.reduceAdd]
      refine CallT.to (imul_n x.num (y.den : Int) (by omega) (by rw [Int.natAbs_natCast]; omega)) (by rw [siP_nat]; rfl) ?_
      simp (maxSteps := 10000000) only [↓sx, sx, ↓ty, ↓reduceIte, Nat.reduceEqDiff, Nat.reduceAdd, ne_eq, not_false_eq_true, pc, ls, Nat.reduceAdd]
      refine CallT.to (imul_n y.num (x.den : Int) (by omega) (by rw [Int.natAbs_natCast]; omega)) (by rw [siP_nat]; rfl) ?_
      simp (maxSteps := 10000000) only [↓sx, sx, ↓reduceIte, Nat.reduceEqDiff, pc]
      refine CallT.mk (iadd_n (x.num * y.den) (y.num * x.den) (by omega) (by omega)) ?_
      simp (maxSteps := 10000000) only [↓sx, sx, ↓ty, ↓reduceIte, Nat.reduceEqDiff, Nat.reduceAdd, ne_eq, not_false_eq_true, pc, ls, Nat.reduceAdd]
      refine CallT.mk (nmul_n x.den y.den (by omega) (by omega)) ?_
      simp (maxSteps := 10000000) only [↓sx, sx, ↓reduceIte, Nat.reduceEqDiff, pc]
      refine CallT.mk (lowestp_n (x.num * y.den + y.num * x.den) (x.den * y.den) (x + y) hd0 (by omega) (by omega) (Rat.add_def x y).symm) ?_
      simp (maxSteps := 10000000) only [↓sx, sx, ↓ty, ↓reduceIte, Nat.reduceEqDiff, Nat.reduceAdd, ls, bs, and_self, Nat.reduceAdd, Nat.le_refl, pd]
set_option maxRecDepth 100000 in
set_option maxHeartbeats 4000000 in
theorem ftimes_n (x y : Rat) (hx : Sz 20000 x) (hy : Sz 20000 y) : Meets Tryz.prog Gd 165 [frP x, frP y] (frP (x * y)) := by
  have a1 := hx.1
  have a2 := hx.2
  have a3 := hy.1
  have a4 := hy.2
  have b4 := Lw_mul x.den y.den
  have b6 := Lw_imul x.num y.num
  have hd0 := Nat.mul_ne_zero x.den_nz y.den_nz
  refine meets_of_vc (Y := {}) (N := 57) (rs := [.cell 4 78]) mix tk gd Tryz.func165 rfl (by kernel_rfl) rfl rfl (by simp) (by kernel_rfl) ?_
  simp (maxSteps := 10000000) only [↓sx, sx, ↓ty, ↓reduceIte, Nat.reduceEqDiff, Nat.reduceAdd, ls, Nat.reduceAdd, Nat.le_refl, pd]
  by_cases hb : shortQ x = true ∧ shortQ y = true
  · have s1 := shortQ_spec hb.1
    have s2 := shortQ_spec hb.2
    refine CallT.mk (flittle_s x hb.1) ?_
    simp (maxSteps := 10000000) only [↓sx, sx, ↓ty, ↓reduceIte, Nat.reduceEqDiff, Nat.reduceAdd, pc, ls, Nat.reduceAdd, Nat.le_refl]
    refine CallT.mk (flittle_s y hb.2) ?_
    simp (maxSteps := 10000000) only [↓sx, sx, ↓reduceIte, Nat.reduceEqDiff, Nat.reduceLT, pc]
    have m1 := scale_lt (a := x.num) (b := y.num) (k := 1000000000) (m := 1000000000) (by omega) (by omega) (by omega)
    have m3 := scale_lt (a := x.den) (b := y.den) (k := 1000000000) (m := 1000000000) (by omega) (by omega) (by omega)
    have m4 : (x.den : Int) * y.den = ((x.den * y.den : Nat) : Int) := by rw [Int.natCast_mul]
    obtain ⟨D, hD⟩ : ∃ D, D = x.den * y.den := ⟨_, rfl⟩
    have hD0 : D ≠ 0 := by rw [hD]; exact hd0
    obtain ⟨X, hX⟩ : ∃ X, X = x.num * y.num := ⟨_, rfl⟩
    have hdef : Rat.normalize X D hD0 = x * y := by subst hD hX; exact (Rat.mul_def x y).symm
    rw [m4, ← hD] at m3 ⊢
    rw [← hX] at m1 ⊢
    clear hD hX m4 b4 b6 hd0
    rw [i64_id (x := X) (by omega) (by omega), i64_id (x := (D : Int)) (by omega) (by omega)]
    refine CallT.mk (fof_n X D (x * y) hD0 (by omega) (by omega) hdef) ?_
    simp (maxSteps := 10000000) only [↓sx, sx, ↓ty, ↓reduceIte, Nat.reduceEqDiff, Nat.reduceAdd, ls, bs, and_self, Nat.reduceAdd, Nat.le_refl, pd]
  · cases hsx : shortQ x with
    | false =>
      refine CallT.mk (flittle_l x hsx) ?_
      simp (maxSteps := 10000000) only [↓sx, sx, ↓ty, ↓reduceIte, Nat.reduceEqDiff, Nat.reduceAdd, pc, ls, Nat.reduceAdd, Nat.le_refl]
      cases hsy : shortQ y with
      | false =>
        refine CallT.mk (flittle_l y hsy) ?_
        simp (maxSteps := 10000000) only [↓sx, sx, ↓ty, ↓reduceIte, Nat.reduceEqDiff, Nat.reduceAdd, Nat.reduceLT, ne_eq, not_false_eq_true, pc, ls, Nat.reduceAdd]
        refine CallT.mk (imul_n x.num y.num (by omega) (by omega)) ?_
        simp (maxSteps := 10000000) only [↓sx, sx, ↓ty, ↓reduceIte, Nat.reduceEqDiff, Nat.reduceAdd, ne_eq, not_false_eq_true, pc, ls, Nat.reduceAdd]
        refine CallT.mk (nmul_n x.den y.den (by omega) (by omega)) ?_
        simp (maxSteps := 10000000) only [↓sx, sx, ↓reduceIte, Nat.reduceEqDiff, pc]
        refine CallT.mk (lowestp_n (x.num * y.num) (x.den * y.den) (x * y) hd0 (by omega) (by omega) (Rat.mul_def x y).symm) ?_
        simp (maxSteps := 10000000) only [↓sx, sx, ↓ty, ↓reduceIte, Nat.reduceEqDiff, Nat.reduceAdd, ls, bs, and_self, Nat.reduceAdd, Nat.le_refl, pd]
      | true =>
        refine CallT.mk (flittle_s y hsy) ?_
        simp (maxSteps := 10000000) only [↓sx, sx, ↓ty, ↓reduceIte, Nat.reduceEqDiff, Nat.reduceAdd, Nat.reduceLT, ne_eq, not_false_eq_true, pc, ls, Nat.reduceAdd]
        refine CallT.mk (imul_n x.num y.num (by omega) (by omega)) ?_
        simp (maxSteps := 10000000) only [↓sx, sx, ↓ty, ↓reduceIte, Nat.reduceEqDiff, Nat.reduceAdd, ne_eq, not_false_eq_true, pc, ls, Nat.reduceAdd]
        refine CallT.mk (nmul_n x.den y.den (by omega) (by omega)) ?_
        simp (maxSteps := 10000000) only [↓sx, sx, ↓reduceIte, Nat.reduceEqDiff, pc]
        refine CallT.mk (lowestp_n (x.num * y.num) (x.den * y.den) (x * y) hd0 (by omega) (by omega) (Rat.mul_def x y).symm) ?_
        simp (maxSteps := 10000000) only [↓sx, sx, ↓ty, ↓reduceIte, Nat.reduceEqDiff, Nat.reduceAdd, ls, bs, and_self, Nat.reduceAdd, Nat.le_refl, pd]
    | true =>
      refine CallT.mk (flittle_s x hsx) ?_
      simp (maxSteps := 10000000) only [↓sx, sx, ↓ty, ↓reduceIte, Nat.reduceEqDiff, Nat.reduceAdd, pc, ls, Nat.reduceAdd, Nat.le_refl]
      have hsy : shortQ y = false := by cases h : shortQ y with | false => rfl | true => exact absurd ⟨hsx, h⟩ hb
      refine CallT.mk (flittle_l y hsy) ?_
      simp (maxSteps := 10000000) only [↓sx, sx, ↓ty, ↓reduceIte, Nat.reduceEqDiff, Nat.reduceAdd, Nat.reduceLT, ne_eq, not_false_eq_true, pc, ls, Nat.reduceAdd]
      refine CallT.mk (imul_n x.num y.num (by omega) (by omega)) ?_
      simp (maxSteps := 10000000) only [↓sx, sx, ↓ty, ↓reduceIte, Nat.reduceEqDiff, Nat.reduceAdd, ne_eq, not_false_eq_true, pc, ls, Nat.reduceAdd]
      refine CallT.mk (nmul_n x.den y.den (by omega) (by omega)) ?_
      simp (maxSteps := 10000000) only [↓sx, sx, ↓reduceIte, Nat.reduceEqDiff, pc]
      refine CallT.mk (lowestp_n (x.num * y.num) (x.den * y.den) (x * y) hd0 (by omega) (by omega) (Rat.mul_def x y).symm) ?_
      simp (maxSteps := 10000000) only [↓sx, sx, ↓ty, ↓reduceIte, Nat.reduceEqDiff, Nat.reduceAdd, ls, bs, and_self, Nat.reduceAdd, Nat.le_refl, pd]
set_option maxRecDepth 100000 in
theorem fminus_n (x y : Rat) (hx : Sz 20000 x) (hy : Sz 20000 y) : Meets Tryz.prog Gd 166 [frP x, frP y] (frP (x - y)) := by
  refine meets_of_vc (Y := {}) (N := 9) (rs := [.cell 4 78]) mix tk gd Tryz.func166 rfl (by kernel_rfl) rfl rfl (by simp) (by kernel_rfl) ?_
  simp (maxSteps := 10000000) only [↓sx, sx, ↓ty, ↓reduceIte, Nat.reduceEqDiff, Nat.reduceAdd, ls, Nat.reduceAdd, Nat.le_refl, pd]
  refine CallT.mk (fopp_n y (hy.mono (by omega))) ?_
  simp (maxSteps := 10000000) only [↓sx, sx, ↓reduceIte, Nat.reduceEqDiff, pd]
  refine CallT.mk (fplus_n x (-y) hx hy.neg) ?_
  simp (maxSteps := 10000000) only [↓sx, sx, ↓ty, ↓reduceIte, Nat.reduceEqDiff, Nat.reduceAdd, ls, bs, and_self, Nat.reduceAdd, Nat.le_refl, pd]
  rw [Rat.sub_eq_add_neg]
set_option maxRecDepth 100000 in
theorem fdiv_n (x y : Rat) (hx : Sz 20000 x) (hy : Sz 20000 y) (h0 : y ≠ 0) : Meets Tryz.prog Gd 168 [frP x, frP y] (frP (x / y)) := by
  refine meets_of_vc (Y := {}) (N := 9) (rs := [.cell 4 78]) mix tk gd Tryz.func168 rfl (by kernel_rfl) rfl rfl (by simp) (by kernel_rfl) ?_
  simp (maxSteps := 10000000) only [↓sx, sx, ↓ty, ↓reduceIte, Nat.reduceEqDiff, Nat.reduceAdd, ls, Nat.reduceAdd, Nat.le_refl, pd]
  refine CallT.mk (finv_n y (hy.mono (by omega)) h0) ?_
  simp (maxSteps := 10000000) only [↓sx, sx, ↓reduceIte, Nat.reduceEqDiff, pd]
  refine CallT.mk (ftimes_n x y⁻¹ hx (hy.inv (by omega))) ?_
  simp (maxSteps := 10000000) only [↓sx, sx, ↓ty, ↓reduceIte, Nat.reduceEqDiff, Nat.reduceAdd, ls, bs, and_self, Nat.reduceAdd, Nat.le_refl, pd]
  rw [Rat.div_def]
end Go.Proofs.YtolehnkoocnenaaGreatDoor.S
namespace Gb
open Go Go.Sx
theorem fr_of {l : List UInt8} (h : isRat l = true) : frP (ratOf l) = .agg [strP (splitM l).1, strP (splitM l).2.1] := by
  obtain ⟨h1, h2, _⟩ := isRat_spec h
  obtain ⟨e1, e2⟩ := ratOf_spec h
  unfold frP siP dP
  rw [e1, e2, iD_intOf h1, dec_natOf h2]
theorem Sz.of {l : List UInt8} {k : Nat} (h : isRat l = true) (hk : l.length ≤ 9 * k) : Sz (k + 1) (ratOf l) := (Sz.text h).mono (by omega)
def fr0 : PV := .agg [.val (.string ⟨#[]⟩), .val (.string ⟨#[]⟩)]
end Gb
namespace Go.Proofs.YtolehnkoocnenaaGreatDoor.S
open Go Go.Sx Go.RowKit Gb Go.Shelf
set_option maxRecDepth 100000 in
theorem both_ok (a b : List UInt8) (ha : a.length < 90000) (hb : b.length < 90000) (h1 : isRat a = true) (h2 : isRat b = true) : Meets Tryz.prog Gd 61 [strP a, strP b] (.tup [frP (ratOf a), frP (ratOf b), iP 0]) := by
  refine meets_of_vc (Y := { ex := [5] }) (N := 31) (rs := [.cell 4 78, .cell 5 78, .tmp 6]) mix tk gd Tryz.func61 rfl (by kernel_rfl) rfl rfl (by simp) (by kernel_rfl) ?_
  simp (maxSteps := 10000000) only [↓sx, sx, ↓ty, ↓reduceIte, Nat.reduceEqDiff, pc]
  refine CallT.mk (fread_n a (by omega)) ?_
  rw [h1, ← fr_of h1]
  simp (maxSteps := 10000000) only [↓sx, sx, ↓ty, ↓reduceIte, Nat.reduceEqDiff, Nat.reduceAdd, pc, ls, bs, and_self, Nat.reduceAdd, Nat.le_refl, pd]
  refine CallT.mk (fread_n b (by omega)) ?_
  rw [h2, ← fr_of h2]
  simp (maxSteps := 10000000) only [↓sx, sx, ↓ty, ↓reduceIte, Nat.reduceEqDiff, Nat.reduceAdd, Nat.reduceLT, pc, ls, bs, and_self, Nat.reduceAdd, Nat.le_refl, pd]
  first | exact ⟨by kernel_rfl, rfl⟩ | kernel_rfl
set_option maxRecDepth 100000 in
theorem both_no (a b : List UInt8) (ha : a.length < 90000) (hb : b.length < 90000) (h : (isRat a && isRat b) = false) : Meets Tryz.prog Gd 61 [strP a, strP b] (.tup [fr0, fr0, iP 1]) := by
  refine meets_of_vc (Y := { ex := [5] }) (N := 31) (rs := [.cell 4 78, .cell 5 78, .tmp 6]) mix tk gd Tryz.func61 rfl (by kernel_rfl) rfl rfl (by simp) (by kernel_rfl) ?_
  simp (maxSteps := 10000000) only [↓sx, sx, ↓ty, ↓reduceIte, Nat.reduceEqDiff, pc]
  refine CallT.mk (fread_n a (by omega)) ?_
  simp (maxSteps := 10000000) only [↓sx, sx, ↓ty, ↓reduceIte, Nat.reduceEqDiff, Nat.reduceAdd, pc, ls, bs, and_self, Nat.reduceAdd, Nat.le_refl]
  refine CallT.mk (fread_n b (by omega)) ?_
  cases h1 : isRat a with
  | false =>
    simp (maxSteps := 10000000) only [↓sx, sx, ↓ty, ↓reduceIte, Nat.reduceEqDiff, Nat.reduceAdd, Nat.reduceLT, pc, ls, bs, and_self, Nat.reduceAdd, Nat.le_refl]
    rfl
  | true =>
    rw [h1, Bool.true_and] at h
    rw [h]
    simp (maxSteps := 10000000) only [↓sx, sx, ↓ty, ↓reduceIte, Nat.reduceEqDiff, Nat.reduceAdd, Nat.reduceLT, pc, ls, bs, and_self, Nat.reduceAdd, Nat.le_refl]
    rfl
set_option maxRecDepth 100000 in
set_option maxHeartbeats 4000000 in
theorem apply_ok (op : Int) (g : FuncId) (a b : List UInt8) (r : Rat) (ha : a.length < 90000) (hb : b.length < 90000) (h1 : isRat a = true) (h2 : isRat b = true) (hg : mpGet opsL op = some g) (hm : Meets Tryz.prog Gd g [frP (ratOf a), frP (ratOf b)] (frP r)) (hz : op ≠ 47 ∨ ratOf b ≠ 0) (hr : Sz 50000 r) :
    Meets Tryz.prog Gd 79 [.val (.int .u8 op), strP a, strP b] (.tup [rtP r, iP 0]) := by
  refine meets_of_vc (Y := {}) (N := 37) (rs := [.tmp 6, .tmp 7]) mix tk gd Tryz.func79 rfl (by kernel_rfl) rfl rfl (by simp) (by kernel_rfl) ?_
  simp (maxSteps := 10000000) only [↓sx, sx, ↓reduceIte, Nat.reduceEqDiff, pc]
  refine CallT.mk (both_ok a b ha hb h1 h2) ?_
  by_cases h47 : op = 47
  · subst h47
    have hb0 : ((ratOf b).num = 0) = False := by simp; simpa using hz
    simp (maxSteps := 10000000) only [↓sx, sx, ↓ty, ↓reduceIte, Nat.reduceEqDiff, Nat.reduceAdd, Nat.reduceLT, Int.reduceBNe, Int.reduceBEq, ne_eq, not_false_eq_true, pc, ls, bs, and_self, Nat.reduceAdd, Nat.le_refl, pd, iD_eq0, hb0, decide_false]
    refine CallT.mk (t := ⟨⟩) all_n ?_
    simp (maxSteps := 10000000) only [↓sx, sx, ↓ty, ↓reduceIte, Nat.reduceEqDiff, Nat.reduceAdd, ls, Nat.reduceAdd, Nat.le_refl, hg]
    refine CallT.mk hm ?_
    simp (maxSteps := 10000000) only [↓sx, sx, ↓reduceIte, pd]
    refine CallT.mk (ftext_n r hr) ?_
    simp (maxSteps := 10000000) only [↓sx, sx, ↓reduceIte, Nat.reduceEqDiff, pc]
  · have e1 : (op == 47) = false := by simpa using h47
    simp (maxSteps := 10000000) only [↓sx, sx, ↓ty, ↓reduceIte, Nat.reduceEqDiff, Nat.reduceAdd, Nat.reduceLT, Int.reduceBNe, pc, ls, bs, and_self, Nat.reduceAdd, Nat.le_refl, pd, e1]
    refine CallT.mk (t := ⟨⟩) all_n ?_
    simp (maxSteps := 10000000) only [↓sx, sx, ↓ty, ↓reduceIte, Nat.reduceEqDiff, Nat.reduceAdd, ls, Nat.reduceAdd, Nat.le_refl, hg]
    refine CallT.mk hm ?_
    simp (maxSteps := 10000000) only [↓sx, sx, ↓reduceIte, pd]
    refine CallT.mk (ftext_n r hr) ?_
    simp (maxSteps := 10000000) only [↓sx, sx, ↓reduceIte, Nat.reduceEqDiff, pc]
set_option maxRecDepth 100000 in
set_option maxHeartbeats 4000000 in
theorem apply_no (op : Int) (a b : List UInt8) (ha : a.length < 90000) (hb : b.length < 90000) (h : (isRat a && isRat b) = false) :
    Meets Tryz.prog Gd 79 [.val (.int .u8 op), strP a, strP b] (.tup [strP [], iP 1]) := by
  refine meets_of_vc (Y := {}) (N := 37) (rs := [.tmp 6, .tmp 7]) mix tk gd Tryz.func79 rfl (by kernel_rfl) rfl rfl (by simp) (by kernel_rfl) ?_
  simp (maxSteps := 10000000) only [↓sx, sx, ↓reduceIte, Nat.reduceEqDiff, pc]
  refine CallT.mk (both_no a b ha hb h) ?_
  simp (maxSteps := 10000000) only [↓sx, sx, ↓ty, ↓reduceIte, Nat.reduceEqDiff, Nat.reduceAdd, Int.reduceBNe, pc, ls, bs, and_self, Nat.reduceAdd, Nat.le_refl, fr0]
set_option maxRecDepth 100000 in
set_option maxHeartbeats 4000000 in
theorem apply_zero (a b : List UInt8) (ha : a.length < 90000) (hb : b.length < 90000) (h1 : isRat a = true) (h2 : isRat b = true) (hz : ratOf b = 0) :
    Meets Tryz.prog Gd 79 [.val (.int .u8 47), strP a, strP b] (.tup [strP [], iP 16]) := by
  refine meets_of_vc (Y := {}) (N := 37) (rs := [.tmp 6, .tmp 7]) mix tk gd Tryz.func79 rfl (by kernel_rfl) rfl rfl (by simp) (by kernel_rfl) ?_
  simp (maxSteps := 10000000) only [↓sx, sx, ↓reduceIte, Nat.reduceEqDiff, pc]
  refine CallT.mk (both_ok a b ha hb h1 h2) ?_
  rw [hz]
  have e0 : (Rat.num 0 = 0) = True := by simp
  simp (maxSteps := 10000000) only [↓sx, sx, ↓ty, ↓reduceIte, Nat.reduceEqDiff, Nat.reduceAdd, Nat.reduceLT, Int.reduceBNe, Int.reduceBEq, ne_eq, not_false_eq_true, pc, ls, bs, and_self, Nat.reduceAdd, Nat.le_refl, pd, iD_eq0, e0, decide_true]
end Go.Proofs.YtolehnkoocnenaaGreatDoor.S
namespace Gb
open Go Go.Sx
def ropP (f : Rat → Rat → Rat) (a b : List UInt8) : PV := if isRat a && isRat b then .tup [rtP (f (ratOf a) (ratOf b)), iP 0] else .tup [strP [], iP 1]
def rdivP (a b : List UInt8) : PV := if isRat a && isRat b then (if ratOf b = 0 then .tup [strP [], iP 16] else .tup [rtP (ratOf a / ratOf b), iP 0]) else .tup [strP [], iP 1]
def rcmpP (a b : List UInt8) : PV := if isRat a && isRat b then .tup [iP (ratOf a - ratOf b).num.sign, iP 0] else .tup [iP 0, iP 1]
theorem and_split {a b : Bool} (h : (a && b) = true) : a = true ∧ b = true := by simpa using h
theorem sz_ok {l : List UInt8} (h : isRat l = true) (hl : l.length < 90000) : Sz 10001 (ratOf l) := Sz.of h (by omega)
end Gb
namespace Go.Proofs.YtolehnkoocnenaaGreatDoor.S
open Go Go.Sx Go.RowKit Gb Go.Shelf
set_option maxRecDepth 100000 in
theorem radd_n (a b : List UInt8) (ha : a.length < 90000) (hb : b.length < 90000) : Meets Tryz.prog Gd 33 [strP a, strP b] (ropP (· + ·) a b) := by
  refine meets_of_vc (Y := {}) (N := 11) (rs := [.tmp 4, .tmp 5]) mix tk gd Tryz.func33 rfl (by kernel_rfl) rfl rfl (by simp) (by kernel_rfl) ?_
  unfold ropP
  cases h : (isRat a && isRat b) with
  | true =>
    obtain ⟨h1, h2⟩ := and_split h
    have s1 := sz_ok h1 ha
    have s2 := sz_ok h2 hb
    simp (maxSteps := 10000000) only [↓sx, sx, ↓reduceIte, Nat.reduceEqDiff, pc]
    refine CallT.mk (apply_ok 43 _ a b (ratOf a + ratOf b) ha hb h1 h2 rfl (fplus_n _ _ (s1.mono (by omega)) (s2.mono (by omega))) (.inl (by decide)) ((s1.add s2).mono (by omega))) ?_
    simp (maxSteps := 10000000) only [↓sx, sx, ↓reduceIte, Nat.reduceEqDiff, pc]
  | false =>
    simp (maxSteps := 10000000) only [↓sx, sx, ↓reduceIte, Nat.reduceEqDiff, pc]
    refine CallT.mk (apply_no 43 a b ha hb h) ?_
    simp (maxSteps := 10000000) only [↓sx, sx, ↓reduceIte, Nat.reduceEqDiff, pc]
set_option maxRecDepth 100000 in
theorem rmul_n (a b : List UInt8) (ha : a.length < 90000) (hb : b.length < 90000) : Meets Tryz.prog Gd 32 [strP a, strP b] (ropP (· * ·) a b) := by
  refine meets_of_vc (Y := {}) (N := 11) (rs := [.tmp 4, .tmp 5]) mix tk gd Tryz.func32 rfl (by kernel_rfl) rfl rfl (by simp) (by kernel_rfl) ?_
  unfold ropP
  cases h : (isRat a && isRat b) with
  | true =>
    obtain ⟨h1, h2⟩ := and_split h
    have s1 := sz_ok h1 ha
    have s2 := sz_ok h2 hb
    simp (maxSteps := 10000000) only [↓sx, sx, ↓reduceIte, Nat.reduceEqDiff, pc]
    refine CallT.mk (apply_ok 42 _ a b (ratOf a * ratOf b) ha hb h1 h2 rfl (ftimes_n _ _ (s1.mono (by omega)) (s2.mono (by omega))) (.inl (by decide)) ((s1.mul s2).mono (by omega))) ?_
    simp (maxSteps := 10000000) only [↓sx, sx, ↓reduceIte, Nat.reduceEqDiff, pc]
  | false =>
    simp (maxSteps := 10000000) only [↓sx, sx, ↓reduceIte, Nat.reduceEqDiff, pc]
    refine CallT.mk (apply_no 42 a b ha hb h) ?_
    simp (maxSteps := 10000000) only [↓sx, sx, ↓reduceIte, Nat.reduceEqDiff, pc]
set_option maxRecDepth 100000 in
theorem rsub_n (a b : List UInt8) (ha : a.length < 90000) (hb : b.length < 90000) : Meets Tryz.prog Gd 34 [strP a, strP b] (ropP (· - ·) a b) := by
  refine meets_of_vc (Y := {}) (N := 11) (rs := [.tmp 4, .tmp 5]) mix tk gd Tryz.func34 rfl (by kernel_rfl) rfl rfl (by simp) (by kernel_rfl) ?_
  unfold ropP
  cases h : (isRat a && isRat b) with
  | true =>
    obtain ⟨h1, h2⟩ := and_split h
    have s1 := sz_ok h1 ha
    have s2 := sz_ok h2 hb
    simp (maxSteps := 10000000) only [↓sx, sx, ↓reduceIte, Nat.reduceEqDiff, pc]
    refine CallT.mk (apply_ok 45 _ a b (ratOf a - ratOf b) ha hb h1 h2 rfl (fminus_n _ _ (s1.mono (by omega)) (s2.mono (by omega))) (.inl (by decide)) ((s1.sub s2).mono (by omega))) ?_
    simp (maxSteps := 10000000) only [↓sx, sx, ↓reduceIte, Nat.reduceEqDiff, pc]
  | false =>
    simp (maxSteps := 10000000) only [↓sx, sx, ↓reduceIte, Nat.reduceEqDiff, pc]
    refine CallT.mk (apply_no 45 a b ha hb h) ?_
    simp (maxSteps := 10000000) only [↓sx, sx, ↓reduceIte, Nat.reduceEqDiff, pc]
set_option maxRecDepth 100000 in
theorem rdiv_n (a b : List UInt8) (ha : a.length < 90000) (hb : b.length < 90000) : Meets Tryz.prog Gd 113 [strP a, strP b] (rdivP a b) := by
  refine meets_of_vc (Y := {}) (N := 11) (rs := [.tmp 4, .tmp 5]) mix tk gd Tryz.func113 rfl (by kernel_rfl) rfl rfl (by simp) (by kernel_rfl) ?_
  unfold rdivP
  cases h : (isRat a && isRat b) with
  | true =>
    obtain ⟨h1, h2⟩ := and_split h
    have s1 := sz_ok h1 ha
    have s2 := sz_ok h2 hb
    by_cases hz : ratOf b = 0
    · rw [if_pos hz]
      simp (maxSteps := 10000000) only [↓sx, sx, ↓reduceIte, Nat.reduceEqDiff, pc]
      refine CallT.mk (apply_zero a b ha hb h1 h2 hz) ?_
      simp (maxSteps := 10000000) only [↓sx, sx, ↓reduceIte, Nat.reduceEqDiff, pc]
    · rw [if_neg hz]
      simp (maxSteps := 10000000) only [↓sx, sx, ↓reduceIte, Nat.reduceEqDiff, pc]
      refine CallT.mk (apply_ok 47 _ a b (ratOf a / ratOf b) ha hb h1 h2 rfl (fdiv_n _ _ (s1.mono (by omega)) (s2.mono (by omega)) hz) (.inr hz) ((s1.div s2 (by omega)).mono (by omega))) ?_
      simp (maxSteps := 10000000) only [↓sx, sx, ↓reduceIte, Nat.reduceEqDiff, pc]
  | false =>
    simp (maxSteps := 10000000) only [↓sx, sx, ↓reduceIte, Nat.reduceEqDiff, pc]
    refine CallT.mk (apply_no 47 a b ha hb h) ?_
    simp (maxSteps := 10000000) only [↓sx, sx, ↓reduceIte, Nat.reduceEqDiff, pc]
set_option maxRecDepth 100000 in
theorem rvalid_n (l : List UInt8) (hl : l.length < 300000) : Meets Tryz.prog Gd 49 [strP l] (.val (.bool (isRat l))) := by
  refine meets_of_vc (Y := {}) (N := 11) (rs := [.tmp 2]) mix tk gd Tryz.func49 rfl (by kernel_rfl) rfl rfl (by simp) (by kernel_rfl) ?_
  simp (maxSteps := 10000000) only [↓sx, sx, ↓reduceIte, Nat.reduceEqDiff, pc]
  refine CallT.mk (fread_n l hl) ?_
  simp (maxSteps := 10000000) only [↓sx, sx, ↓ty, ↓reduceIte, Nat.reduceEqDiff, Nat.reduceAdd, pc, ls, bs, and_self, Nat.reduceAdd, Nat.le_refl]
end Go.Proofs.YtolehnkoocnenaaGreatDoor.S
namespace Gb
open Go Go.Sx
theorem sub_self_sign (x : Rat) : (x - x).num.sign = 0 := by rw [Rat.sub_self]; rfl
theorem cut_sign {s t : Int} (hs : s = -1 ∨ s = 0 ∨ s = 1) (ht : t = -1 ∨ t = 0 ∨ t = 1) (h : s ≠ t) :
    (if (if 1 < s - t then (1 : Int) else s - t) > -1 then (if 1 < s - t then (1 : Int) else s - t) else -1) = if s < t then -1 else 1 := by
  rcases hs with rfl | rfl | rfl <;> rcases ht with rfl | rfl | rfl <;> first | (exact absurd rfl h) | decide
theorem sign_3 (z : Int) : z.sign = -1 ∨ z.sign = 0 ∨ z.sign = 1 := by
  rcases Int.lt_trichotomy z 0 with h | h | h
  · exact .inl (Int.sign_eq_neg_one_of_neg h)
  · exact .inr (.inl (by rw [h]; rfl))
  · exact .inr (.inr (Int.sign_eq_one_of_pos h))
theorem sign_key (x y : Rat) : x.num.sign ≠ y.num.sign → (x - y).num.sign = if x.num.sign < y.num.sign then -1 else 1 := by
  have hsx : ∀ z : Int, ∀ d : Nat, d ≠ 0 → (z * d).sign = z.sign := by
    intro z d hd
    rw [Int.sign_mul, Int.sign_eq_one_of_pos (show (0 : Int) < d by omega), Int.mul_one]
  have hcx := hsx x.num y.den y.den_nz
  have hcy := hsx y.num x.den x.den_nz
  rw [sub_sign_num, ← hcx, ← hcy]
  generalize x.num * (y.den : Int) = a
  generalize y.num * (x.den : Int) = b
  intro h
  rcases Int.lt_trichotomy a 0 with h1 | h1 | h1 <;> rcases Int.lt_trichotomy b 0 with h2 | h2 | h2 <;>
    simp [h1, h2, Int.sign_eq_neg_one_of_neg, Int.sign_eq_one_of_pos] at h ⊢ <;> omega
end Gb
namespace Go.Proofs.YtolehnkoocnenaaGreatDoor.S
open Go Go.Sx Go.RowKit Gb Go.Shelf
set_option maxRecDepth 100000 in
set_option maxHeartbeats 4000000 in
theorem rcmp_n (a b : List UInt8) (ha : a.length < 90000) (hb : b.length < 90000) : Meets Tryz.prog Gd 23 [strP a, strP b] (rcmpP a b) := by
  refine meets_of_vc (Y := {}) (N := 63) (rs := [.tmp 4, .tmp 5]) mix tk gd Tryz.func23 rfl (by kernel_rfl) rfl rfl (by simp) (by kernel_rfl) ?_
  unfold rcmpP
  cases h : (isRat a && isRat b) with
  | false =>
    simp (maxSteps := 10000000) only [↓sx, sx, ↓reduceIte, Nat.reduceEqDiff, pc]
    refine CallT.mk (both_no a b ha hb h) ?_
    simp (maxSteps := 10000000) only [↓sx, sx, ↓ty, ↓reduceIte, Nat.reduceEqDiff, Nat.reduceAdd, Nat.reduceLT, Int.reduceBNe, pc, ls, bs, and_self, Nat.reduceAdd, Nat.le_refl, fr0]
  | true =>
    obtain ⟨h1, h2⟩ := and_split h
    have s1 := sz_ok h1 ha
    have s2 := sz_ok h2 hb
    have z1 := s1.1
    have z2 := s1.2
    have z3 := s2.1
    have z4 := s2.2
    simp (maxSteps := 10000000) only [↓sx, sx, ↓reduceIte, Nat.reduceEqDiff, pc]
    refine CallT.mk (both_ok a b ha hb h1 h2) ?_
    by_cases hab : a = b
    · subst hab
      have e1 : (a == a) = true := by simp
      simp (maxSteps := 10000000) only [↓sx, sx, ↓ty, ↓reduceIte, Nat.reduceEqDiff, Nat.reduceAdd, Nat.reduceLT, Int.reduceBNe, pc, ls, bs, and_self, Nat.reduceAdd, Nat.le_refl, pd, e1]
      rw [sub_self_sign]
    · have e1 : (a == b) = false := by simpa using hab
      simp (maxSteps := 10000000) only [↓sx, sx, ↓ty, ↓reduceIte, Nat.reduceEqDiff, Nat.reduceAdd, Nat.reduceLT, Int.reduceBNe, pc, ls, bs, and_self, Nat.reduceAdd, Nat.le_refl, pd, e1]
      refine CallT.mk (t := ⟨⟩) (fsign_n (ratOf a) (s1.mono (by omega))) ?_
      simp (maxSteps := 10000000) only [↓sx, sx, ↓ty, ↓reduceIte, Nat.reduceEqDiff, Nat.reduceAdd, ls, Nat.reduceAdd, Nat.le_refl]
      refine CallT.mk (t := ⟨⟩) (fsign_n (ratOf b) (s2.mono (by omega))) ?_
      by_cases hs : (ratOf a).num.sign = (ratOf b).num.sign
      · have e2 : ((ratOf a).num.sign != (ratOf b).num.sign) = false := by simpa using hs
        simp (maxSteps := 10000000) only [↓sx, sx, ↓ty, ↓reduceIte, Nat.reduceEqDiff, Nat.reduceAdd, ne_eq, not_false_eq_true, pc, ls, Nat.reduceAdd, e2]
        refine CallT.to (imul_n (ratOf a).num ((ratOf b).den : Int) (by omega) (by rw [Int.natAbs_natCast]; omega)) (by rw [siP_nat]; rfl) ?_
        simp (maxSteps := 10000000) only [↓sx, sx, ↓ty, ↓reduceIte, Nat.reduceEqDiff, Nat.reduceAdd, ne_eq, not_false_eq_true, pc, ls, Nat.reduceAdd]
        refine CallT.to (imul_n (ratOf b).num ((ratOf a).den : Int) (by omega) (by rw [Int.natAbs_natCast]; omega)) (by rw [siP_nat]; rfl) ?_
        simp (maxSteps := 10000000) only [↓sx, sx, ↓reduceIte, Nat.reduceEqDiff, pc]
        have l1 := Lw_imul (ratOf a).num (ratOf b).den
        have l2 := Lw_imul (ratOf b).num (ratOf a).den
        rw [Int.natAbs_natCast] at l1 l2
        refine CallT.mk (icompare_n ((ratOf a).num * (ratOf b).den) ((ratOf b).num * (ratOf a).den) (by omega) (by omega)) ?_
        simp (maxSteps := 10000000) only [↓sx, sx, ↓reduceIte, Nat.reduceEqDiff, pc]
        rw [sub_sign_num]
      · have e2 : ((ratOf a).num.sign != (ratOf b).num.sign) = true := by simpa using hs
        have k := sign_key (ratOf a) (ratOf b) hs
        have c := cut_sign (sign_3 _) (sign_3 _) hs
        have b1 := sign_3 (ratOf a).num
        have b2 := sign_3 (ratOf b).num
        simp (maxSteps := 10000000) only [↓sx, sx, ↓reduceIte, Nat.reduceEqDiff, pc, e2]
        rw [k, ← c, i64_id (x := (ratOf a).num.sign - (ratOf b).num.sign) (by omega) (by omega)]
end Go.Proofs.YtolehnkoocnenaaGreatDoor.S
namespace Go.Proofs.YtolehnkoocnenaaGreatDoor.S
open Go Go.Sx Go.RowKit Gb Go.Shelf
theorem rcmp_q (x y : Rat) (hx : Sz 4000 x) (hy : Sz 4000 y) : Meets Tryz.prog Gd 23 [rtP x, rtP y] (.tup [iP (x - y).num.sign, iP 0]) := by
  have := rcmp_n (rT x) (rT y) (by have := rT_len hx; omega) (by have := rT_len hy; omega)
  unfold rcmpP at this
  rw [isRat_rT, isRat_rT, ratOf_rT, ratOf_rT] at this
  exact this
set_option maxRecDepth 100000 in
theorem less_q (x y : Rat) (hx : Sz 4000 x) (hy : Sz 4000 y) : Meets Tryz.prog Gd 59 [rtP x, rtP y] (.val (.bool (decide (x < y)))) := by
  refine meets_of_vc (Y := {}) (N := 15) (rs := [.tmp 4]) mix tk gd Tryz.func59 rfl (by kernel_rfl) rfl rfl (by simp) (by kernel_rfl) ?_
  simp (maxSteps := 10000000) only [↓sx, sx, ↓reduceIte, Nat.reduceEqDiff, pc]
  refine CallT.mk (rcmp_q x y hx hy) ?_
  simp (maxSteps := 10000000) only [↓sx, sx, ↓reduceIte, Nat.reduceEqDiff, pc, lt_sign]
set_option maxRecDepth 100000 in
theorem ivalid2_n (a b : List UInt8) (ha : a.length < 90000) (hb : b.length < 90000) : Meets Tryz.prog Gd 22 [ivP a b] (.val (.bool (isIv a b))) := by
  refine meets_of_vc (Y := {}) (N := 19) (rs := [.tmp 2]) mix tk gd Tryz.func22 rfl (by kernel_rfl) rfl rfl (by simp) (by kernel_rfl) ?_
  simp (maxSteps := 10000000) only [↓sx, sx, ↓ty, ↓reduceIte, Nat.reduceEqDiff, Nat.reduceAdd, ne_eq, not_false_eq_true, ls, Nat.reduceAdd, pi]
  refine CallT.mk (rcmp_n a b ha hb) ?_
  unfold rcmpP isIv
  cases h : (isRat a && isRat b) with
  | false =>
    simp only [Bool.false_eq_true, if_false]
    simp (maxSteps := 10000000) only [↓sx, sx, ↓reduceIte, Nat.reduceEqDiff, Nat.reduceLT, Int.reduceBEq, pc, and_self]
  | true =>
    simp only [if_true]
    simp (maxSteps := 10000000) only [↓sx, sx, ↓reduceIte, Nat.reduceEqDiff, Nat.reduceLT, Int.reduceBEq, pc, and_self, le_sign]
set_option maxRecDepth 100000 in
set_option maxHeartbeats 4000000 in
theorem has_n (a b x : List UInt8) (ha : a.length < 36000) (hb : b.length < 36000) (hx : x.length < 36000) : Meets Tryz.prog Gd 37 [ivP a b, strP x] (.val (.bool (isIv a b && isRat x && !decide (ratOf x < ratOf a) && !decide (ratOf b < ratOf x)))) := by
  refine meets_of_vc (Y := {}) (N := 25) (rs := [.tmp 4]) mix tk gd Tryz.func37 rfl (by kernel_rfl) rfl rfl (by simp) (by kernel_rfl) ?_
  simp (maxSteps := 10000000) only [↓sx, sx, ↓ty, ↓reduceIte, Nat.reduceEqDiff, Nat.reduceAdd, ls, Nat.reduceAdd, Nat.le_refl, pi]
  refine CallT.mk (ivalid2_n a b (by omega) (by omega)) ?_
  cases h : isIv a b with
  | false =>
    simp (maxSteps := 10000000) only [↓sx, sx, ↓reduceIte, Nat.reduceEqDiff, Nat.reduceLT, bs, and_self]
  | true =>
    simp (maxSteps := 10000000) only [↓sx, sx, ↓reduceIte, Nat.reduceEqDiff, Nat.reduceLT, pc]
    refine CallT.mk (rvalid_n x (by omega)) ?_
    cases h2 : isRat x with
    | false =>
      simp (maxSteps := 10000000) only [↓sx, sx, ↓reduceIte, Nat.reduceEqDiff, Nat.reduceLT, bs, and_self]
    | true =>
      unfold isIv at h
      simp only [Bool.and_eq_true, decide_eq_true_eq] at h
      obtain ⟨⟨h3, h4⟩, h5⟩ := h
      obtain ⟨x, rfl, sx1⟩ := rT_of h2
      obtain ⟨a, rfl, sa⟩ := rT_of h3
      obtain ⟨b, rfl, sb⟩ := rT_of h4
      simp (maxSteps := 10000000) only [↓sx, sx, ↓ty, ↓reduceIte, Nat.reduceEqDiff, Nat.reduceAdd, Nat.reduceLT, ne_eq, not_false_eq_true, pc, ls, Nat.reduceAdd]
      refine CallT.mk (less_q x a (sx1.mono (by omega)) (sa.mono (by omega))) ?_
      rw [ratOf_rT a, ratOf_rT b] at h5
      rw [ratOf_rT x, ratOf_rT a, ratOf_rT b]
      by_cases l1 : x < a
      · simp only [l1, decide_true]
        simp (maxSteps := 10000000) only [↓sx, sx, ↓reduceIte, Nat.reduceEqDiff, Nat.reduceLT, bs, and_self]
      · simp only [l1, decide_false]
        simp (maxSteps := 10000000) only [↓sx, sx, ↓ty, ↓reduceIte, Nat.reduceEqDiff, Nat.reduceAdd, Nat.reduceLT, ne_eq, not_false_eq_true, pc, ls, Nat.reduceAdd]
        refine CallT.mk (less_q b x (sb.mono (by omega)) (sx1.mono (by omega))) ?_
        simp (maxSteps := 10000000) only [↓sx, sx, ↓reduceIte, Nat.reduceEqDiff, Nat.reduceLT, bs, and_self]
set_option maxRecDepth 100000 in
set_option maxHeartbeats 4000000 in
theorem ends_n (x0 : Rat) (xs : List Rat) (h0 : Sz 4000 x0) (hs : ∀ x ∈ xs, Sz 4000 x) (hl : xs.length < 1000000) : Meets Tryz.prog Gd 60 [.sl (xs.length + 1) (rtP x0 :: xs.map rtP)] (ivQ (endsQ (x0, x0) xs)) := by
  refine meets_of_vc (Y := {}) (N := 34) (rs := [.cell 2 25]) mix tk gd Tryz.func60 rfl (by kernel_rfl) rfl rfl (by simp) (by kernel_rfl) ?_
  simp (maxSteps := 10000000) only [↓sx, sx, ↓ty, ↓reduceIte, Nat.reduceEqDiff, Nat.reduceAdd, Nat.reduceLeDiff, pc, ls, bs, and_self, Nat.reduceAdd, Nat.le_refl]
  refine ⟨by omega, by omega, by omega, ?_⟩
  refine loopK_of (fun i : Nat => [(2, .box 2 0), (3, .box 3 0), (14, .p (.sl xs.length (xs.map rtP))), (15, .p (.val (.int .i64 (xs.length : Nat)))), (16, .p (.val (.int .i64 (i : Nat))))]) (fun i => [(2, (25, [.val (.string ⟨#[]⟩), .val (.string ⟨#[]⟩)])), (3, (25, [rtP (endsQ (x0, x0) (xs.take i)).1, rtP (endsQ (x0, x0) (xs.take i)).2]))]) (fun _ => []) (fun i => i ≤ xs.length) (fun i => xs.length - i) 0 (Nat.zero_le _) ?_ ?_
  · simp (maxSteps := 10000000) only [isE_nil, is_cons, bo_p, bo_box, any_cons', all_cons', all_nil', Bool.true_or, Bool.or_true, ↓sx, sx, ↓reduceIte, Nat.reduceEqDiff, Nat.reduceBeqDiff]
    simp [endsQ, rtP_c]
    rw [List.take_of_length_le (by simp)]
  · intro i hi
    simp (maxSteps := 10000000) only [↓sx, sx, ↓ty, ↓reduceIte, Nat.reduceEqDiff, Nat.reduceAdd, ne_eq, not_false_eq_true, pc, ls, bs, and_self, Nat.reduceAdd, Nat.le_refl, List.getElem?_map, loadQ]
    refine vcIf_dec (fun h => ?_) (fun h => ?_)
    · have hil : i < xs.length := by omega
      have ht := endsQ_snoc (x0, x0) (xs.take i) (xs.getD i 0)
      rw [← take_snoc hil] at ht
      have hz := endsQ_sz (k := 4000) (xs.take i) (x0, x0) h0 h0 fun x hx => hs x (List.mem_of_mem_take hx)
      have hx : Sz 4000 (xs.getD i 0) := hs _ (by rw [List.getD_eq_getElem?_getD, List.getElem?_eq_getElem hil]; exact List.getElem_mem hil)
      generalize endsQ (x0, x0) (xs.take i) = E at *
      obtain ⟨lo, hi⟩ := E
      generalize xs.getD i 0 = a at *
      dsimp only at *
      refine ⟨⟨by omega, by omega, by rw [List.length_map]; omega⟩, hil, ?_⟩
      refine CallT.mk (less_q a lo hx hz.1) ?_
      by_cases c1 : a < lo
      · simp only [c1, decide_true, if_true] at ht ⊢
        simp (maxSteps := 10000000) only [↓sx, sx, ↓ty, ↓reduceIte, Nat.reduceEqDiff, Nat.reduceAdd, Nat.reduceLeDiff, ne_eq, not_false_eq_true, ls, bs, and_self, Nat.reduceAdd]
        refine CallT.mk (less_q hi a hz.2 hx) ?_
        by_cases c2 : hi < a
        · simp only [c2, decide_true, if_true] at ht ⊢
          simp (maxSteps := 10000000) only [↓sx, sx, ↓ty, ↓reduceIte, Nat.reduceEqDiff, Nat.reduceAdd, ne_eq, not_false_eq_true, pc, ls, bs, and_self, Nat.reduceAdd, Nat.le_refl]
          refine NextK.mk (i + 1) (by omega) (by omega) ?_
          simp (maxSteps := 10000000) only [isE_nil, is_cons, bo_p, bo_box, any_cons', all_cons', all_nil', Bool.true_or, Bool.or_true, ↓sx, sx, ↓reduceIte, Nat.reduceEqDiff, Nat.reduceBeqDiff]
          rw [i64_id (by omega) (by omega), ht]
          exact ⟨rfl, rfl⟩
        · simp only [c2, decide_false, if_false] at ht ⊢
          simp (maxSteps := 10000000) only [↓sx, sx, ↓reduceIte, Nat.reduceEqDiff, pc]
          refine NextK.mk (i + 1) (by omega) (by omega) ?_
          simp (maxSteps := 10000000) only [isE_nil, is_cons, bo_p, bo_box, any_cons', all_cons', all_nil', Bool.true_or, Bool.or_true, ↓sx, sx, ↓reduceIte, Nat.reduceEqDiff, Nat.reduceBeqDiff]
          rw [i64_id (by omega) (by omega), ht]
          exact ⟨rfl, rfl⟩
      · simp only [c1, decide_false, if_false] at ht ⊢
        simp (maxSteps := 10000000) only [↓sx, sx, ↓ty, ↓reduceIte, Nat.reduceEqDiff, Nat.reduceAdd, ne_eq, not_false_eq_true, ls, Nat.reduceAdd]
        refine CallT.mk (less_q hi a hz.2 hx) ?_
        by_cases c2 : hi < a
        · simp only [c2, decide_true, if_true] at ht ⊢
          simp (maxSteps := 10000000) only [↓sx, sx, ↓ty, ↓reduceIte, Nat.reduceEqDiff, Nat.reduceAdd, ne_eq, not_false_eq_true, pc, ls, bs, and_self, Nat.reduceAdd, Nat.le_refl]
          refine NextK.mk (i + 1) (by omega) (by omega) ?_
          simp (maxSteps := 10000000) only [isE_nil, is_cons, bo_p, bo_box, any_cons', all_cons', all_nil', Bool.true_or, Bool.or_true, ↓sx, sx, ↓reduceIte, Nat.reduceEqDiff, Nat.reduceBeqDiff]
          rw [i64_id (by omega) (by omega), ht]
          exact ⟨rfl, rfl⟩
        · simp only [c2, decide_false, if_false] at ht ⊢
          simp (maxSteps := 10000000) only [↓sx, sx, ↓reduceIte, Nat.reduceEqDiff, pc]
          refine NextK.mk (i + 1) (by omega) (by omega) ?_
          simp (maxSteps := 10000000) only [isE_nil, is_cons, bo_p, bo_box, any_cons', all_cons', all_nil', Bool.true_or, Bool.or_true, ↓sx, sx, ↓reduceIte, Nat.reduceEqDiff, Nat.reduceBeqDiff]
          rw [i64_id (by omega) (by omega), ht]
          exact ⟨rfl, rfl⟩
    · obtain rfl : i = xs.length := by omega
      rw [List.take_length]
      rfl
end Go.Proofs.YtolehnkoocnenaaGreatDoor.S
namespace Gb
open Go Go.RowKit Go.Sx
theorem rT_0 : rT 0 = [48] := by
  unfold rT
  rw [if_pos (show (0 : Rat).den = 1 from rfl)]
  show iD 0 = _
  unfold iD
  rw [if_neg (by decide)]
  exact dec_0
theorem rtP_0 : rtP 0 = .val (.string ⟨#[48]⟩) := by unfold rtP; rw [rT_0]; rfl
def e0 : PV := .val (.string ⟨#[]⟩)
def isignP (a b : List UInt8) : PV := if isIv a b then (if 0 < ratOf a then .tup [iP 1, .val (.bool true), iP 0] else if ratOf b < 0 then .tup [iP (-1), .val (.bool true), iP 0] else .tup [iP 0, .val (.bool (a == b)), iP 0]) else .tup [iP 0, .val (.bool false), iP 1]
theorem isIv_spec {a b : List UInt8} (h : isIv a b = true) : isRat a = true ∧ isRat b = true ∧ ratOf a ≤ ratOf b := by
  unfold isIv at h
  simp only [Bool.and_eq_true, decide_eq_true_eq] at h
  exact ⟨h.1.1, h.1.2, h.2⟩
theorem isIv_rT {x y : Rat} (h : x ≤ y) : isIv (rT x) (rT y) = true := by
  unfold isIv; rw [isRat_rT, isRat_rT, ratOf_rT, ratOf_rT]; simp [h]
theorem ivQ_iv (p : Rat × Rat) : ivQ p = ivP (rT p.1) (rT p.2) := rfl
theorem w4 : IntKind.i64.wrap 0 = 0 ∧ IntKind.i64.wrap 1 = 1 ∧ IntKind.i64.wrap 2 = 2 ∧ IntKind.i64.wrap 3 = 3 := by decide
def cC (r0 r1 r2 r3 : Rat) (n : Nat) : List PV := [if 0 < n then rtP r0 else e0, if 1 < n then rtP r1 else e0, if 2 < n then rtP r2 else e0, if 3 < n then rtP r3 else e0]
end Gb
namespace Go.Proofs.YtolehnkoocnenaaGreatDoor.S
open Go Go.Sx Go.RowKit Gb Go.Shelf
set_option maxRecDepth 100000 in
set_option maxHeartbeats 4000000 in
theorem isign2_n (a b : List UInt8) (ha : a.length < 35000) (hb : b.length < 35000) : Meets Tryz.prog Gd 36 [ivP a b] (isignP a b) := by
  refine meets_of_vc (Y := {}) (N := 22) (rs := [.tmp 2, .tmp 3, .tmp 4]) mix tk gd Tryz.func36 rfl (by kernel_rfl) rfl rfl (by simp) (by kernel_rfl) ?_
  unfold isignP
  simp (maxSteps := 10000000) only [↓sx, sx, ↓ty, ↓reduceIte, Nat.reduceEqDiff, Nat.reduceAdd, ls, Nat.reduceAdd, Nat.le_refl, pi]
  refine CallT.mk (ivalid2_n a b (by omega) (by omega)) ?_
  cases h : isIv a b with
  | false =>
    simp only [Bool.false_eq_true, if_false]
    simp (maxSteps := 10000000) only [↓sx, sx, ↓reduceIte, Nat.reduceEqDiff, pc]
  | true =>
    simp only [if_true]
    obtain ⟨h1, h2, h3⟩ := isIv_spec h
    obtain ⟨a, rfl, sa⟩ := rT_of h1
    obtain ⟨b, rfl, sb⟩ := rT_of h2
    rw [ratOf_rT a, ratOf_rT b]
    simp (maxSteps := 10000000) only [↓sx, sx, ↓ty, ↓reduceIte, Nat.reduceEqDiff, Nat.reduceAdd, ne_eq, not_false_eq_true, ls, Nat.reduceAdd]
    refine CallT.to (less_q 0 a (Sz.int (z := 0) (by rw [Int.natAbs_zero, Lw_zero]; omega) (by omega)) (sa.mono (by omega))) (by rw [rtP_0]; rfl) ?_
    by_cases c1 : 0 < a
    · simp only [c1, decide_true, if_true]
      simp (maxSteps := 10000000) only [↓sx, sx, ↓reduceIte, Nat.reduceEqDiff, pc]
    · simp only [c1, decide_false, if_false]
      simp (maxSteps := 10000000) only [↓sx, sx, ↓ty, ↓reduceIte, Nat.reduceEqDiff, Nat.reduceAdd, ne_eq, not_false_eq_true, ls, Nat.reduceAdd]
      refine CallT.to (less_q b 0 (sb.mono (by omega)) (Sz.int (z := 0) (by rw [Int.natAbs_zero, Lw_zero]; omega) (by omega))) (by rw [rtP_0]; rfl) ?_
      by_cases c2 : b < 0
      · simp only [c2, decide_true, if_true]
        simp (maxSteps := 10000000) only [↓sx, sx, ↓reduceIte, Nat.reduceEqDiff, pc]
      · simp only [c2, decide_false, if_false]
        simp (maxSteps := 10000000) only [↓sx, sx, ↓ty, ↓reduceIte, Nat.reduceEqDiff, Nat.reduceAdd, ne_eq, not_false_eq_true, pc, ls, Nat.reduceAdd]
set_option maxRecDepth 100000 in
set_option maxHeartbeats 4000000 in
theorem corners_ok (g : FuncId) (f : Rat → Rat → Rat) (a1 a2 b1 b2 : Rat) (ha : a1 ≤ a2) (hb : b1 ≤ b2) (sa1 : Sz 1500 a1) (sa2 : Sz 1500 a2) (sb1 : Sz 1500 b1) (sb2 : Sz 1500 b2)
    (hm : ∀ x y, (x = a1 ∨ x = a2) → (y = b1 ∨ y = b2) → Meets Tryz.prog Gd g [rtP x, rtP y] (.tup [rtP (f x y), iP 0]) ∧ Sz 4000 (f x y)) :
    Meets Tryz.prog Gd 80 [.clo g [] [], ivQ (a1, a2), ivQ (b1, b2)] (.tup [ivQ (endsQ (f a1 b1, f a1 b1) [f a1 b2, f a2 b1, f a2 b2]), iP 0]) := by
  refine meets_of_vc (Y := { sf := [133] }) (N := 56) (rs := [.cell 6 25, .tmp 7]) mix tk gd Tryz.func80 rfl (by kernel_rfl) rfl rfl (by simp) (by kernel_rfl) ?_
  have la1 := rT_len sa1
  have la2 := rT_len sa2
  have lb1 := rT_len sb1
  have lb2 := rT_len sb2
  simp (maxSteps := 10000000) only [↓sx, sx, ↓ty, ↓reduceIte, Nat.reduceEqDiff, Nat.reduceAdd, ls, Nat.reduceAdd, Nat.le_refl, pi]
  refine CallT.mk (ivalid2_n (rT a1) (rT a2) (by omega) (by omega)) ?_
  rw [isIv_rT ha]
  simp (maxSteps := 10000000) only [↓sx, sx, ↓ty, ↓reduceIte, Nat.reduceEqDiff, Nat.reduceAdd, Nat.reduceLT, ls, Nat.reduceAdd, Nat.le_refl]
  refine CallT.mk (ivalid2_n (rT b1) (rT b2) (by omega) (by omega)) ?_
  rw [isIv_rT hb]
  simp (maxSteps := 10000000) only [↓sx, sx, ↓ty, ↓reduceIte, Nat.reduceEqDiff, Nat.reduceAdd, Nat.reduceLeDiff, Nat.reduceLT, ne_eq, not_false_eq_true, ls, and_self, Nat.reduceAdd, Nat.le_refl]
  have e00 : e0 = .val (.string ⟨#[]⟩) := rfl
  refine loopK_of (fun i : Nat => [(0, .p (.clo g [] [])), (5, .box 5 0), (6, .box 6 0), (8, .box 8 0), (26, .p (.agg [rtP a1, rtP a2])), (27, .p (.val (.int .i64 (i : Nat))))]) (fun i => [(5, (25, [rtP b1, rtP b2])), (6, (25, [e0, e0])), (8, (133, cC (f a1 b1) (f a1 b2) (f a2 b1) (f a2 b2) (2 * i)))]) (fun _ => []) (fun i => i ≤ 2) (fun i => 2 - i) 0 (Nat.zero_le _) ?_ ?_
  · simp (maxSteps := 10000000) only [isE_nil, is_cons, bo_p, bo_box, any_cons', all_cons', all_nil', Bool.true_or, Bool.or_true, ↓sx, sx, ↓reduceIte, Nat.reduceEqDiff, Nat.reduceBeqDiff]
    trivial
  · intro i hi
    have hi3 : i = 0 ∨ i = 1 ∨ i = 2 := by omega
    rcases hi3 with rfl | rfl | rfl
    · simp (maxSteps := 10000000) only [↓sx, sx, ↓ty, ↓reduceIte, Nat.reduceEqDiff, Nat.reduceAdd, Nat.reduceLeDiff, Nat.reduceLT, Nat.reduceMul, ne_eq, not_false_eq_true, pc, ls, and_self, Nat.reduceAdd, Nat.le_refl, cC, Nat.reduceLT, e00, Int.cast_ofNat_Int, Int.reduceLT, decide_true]
      refine ⟨by omega, loopK_of (fun k : Nat => [(0, .p (.clo g [] [])), (5, .box 5 0), (6, .box 6 0), (8, .box 8 0), (26, .p (.agg [rtP a1, rtP a2])), (27, .p (.val (.int .i64 0))), (9, .p (.val (.int .i64 0))), (10, .p (rtP a1)), (35, .p (.agg [rtP b1, rtP b2])), (36, .p (.val (.int .i64 (k : Nat))))]) (fun k => [(5, (25, [rtP b1, rtP b2])), (6, (25, [e0, e0])), (8, (133, cC (f a1 b1) (f a1 b2) (f a2 b1) (f a2 b2) (0 + k)))]) (fun _ => []) (fun k => k ≤ 2) (fun k => 2 - k) 0 (Nat.zero_le _) ?_ ?_⟩
      · simp (maxSteps := 10000000) only [isE_nil, is_cons, bo_p, bo_box, any_cons', all_cons', all_nil', Bool.true_or, Bool.or_true, ↓sx, sx, ↓reduceIte, Nat.reduceEqDiff, Nat.reduceBeqDiff]
        trivial
      · intro k hk
        have hk3 : k = 0 ∨ k = 1 ∨ k = 2 := by omega
        rcases hk3 with rfl | rfl | rfl
        · simp (maxSteps := 10000000) only [↓sx, sx, ↓ty, ↓reduceIte, Nat.reduceEqDiff, Nat.reduceAdd, Nat.reduceLeDiff, Nat.reduceLT, pc, ls, and_self, Nat.reduceAdd, cC, Nat.reduceLT, e00, Int.cast_ofNat_Int, Int.reduceLT, decide_true, Int.reduceMul, Int.reduceAdd, w4]
          refine ⟨by omega, CallT.mk (hm a1 b1 (.inl rfl) (.inl rfl)).1 ?_⟩
          simp (maxSteps := 10000000) only [↓sx, sx, ↓ty, ↓reduceIte, Nat.reduceEqDiff, Nat.reduceAdd, Nat.reduceLeDiff, Nat.reduceLT, pc, ls, bs, and_self, Nat.reduceAdd, Nat.reduceLT, e00, Int.reduceAdd, w4]
          refine ⟨by omega, NextK.mk 1 (by omega) (by omega) ?_⟩
          simp (maxSteps := 10000000) only [isE_nil, is_cons, bo_p, bo_box, any_cons', all_cons', all_nil', Bool.true_or, Bool.or_true, ↓sx, sx, ↓reduceIte, Nat.reduceEqDiff, Nat.reduceBeqDiff]
          trivial
        · simp (maxSteps := 10000000) only [↓sx, sx, ↓ty, ↓reduceIte, Nat.reduceEqDiff, Nat.reduceAdd, Nat.reduceLT, pc, ls, and_self, Nat.reduceAdd, Nat.le_refl, cC, Nat.reduceLT, e00, Int.cast_ofNat_Int, Int.reduceLT, decide_true, Int.reduceMul, Int.reduceAdd, w4, Int.reduceToNat]
          refine ⟨by omega, CallT.mk (hm a1 b2 (.inl rfl) (.inr rfl)).1 ?_⟩
          simp (maxSteps := 10000000) only [↓sx, sx, ↓ty, ↓reduceIte, Nat.reduceEqDiff, Nat.reduceAdd, Nat.reduceLeDiff, Nat.reduceLT, pc, ls, bs, and_self, Nat.reduceAdd, Nat.reduceLT, e00, Int.reduceAdd, w4, Int.reduceToNat]
          refine ⟨by omega, NextK.mk 2 (by omega) (by omega) ?_⟩
          simp (maxSteps := 10000000) only [isE_nil, is_cons, bo_p, bo_box, any_cons', all_cons', all_nil', Bool.true_or, Bool.or_true, ↓sx, sx, ↓reduceIte, Nat.reduceEqDiff, Nat.reduceBeqDiff]
          trivial
        · simp (maxSteps := 10000000) only [↓sx, sx, ↓reduceIte, Nat.reduceEqDiff, Nat.reduceAdd, Nat.reduceLT, pc, Nat.reduceAdd, cC, Nat.reduceLT, e00, Int.cast_ofNat_Int, Int.reduceLT, decide_false, Int.reduceAdd, w4]
          refine NextK.mk 1 (by omega) (by omega) ?_
          simp (maxSteps := 10000000) only [isE_nil, is_cons, bo_p, bo_box, any_cons', all_cons', all_nil', Bool.true_or, Bool.or_true, ↓sx, sx, ↓reduceIte, Nat.reduceEqDiff, Nat.reduceBeqDiff]
          trivial
    · simp (maxSteps := 10000000) only [↓sx, sx, ↓ty, ↓reduceIte, Nat.reduceEqDiff, Nat.reduceAdd, Nat.reduceLeDiff, Nat.reduceLT, ne_eq, not_false_eq_true, pc, ls, and_self, Nat.reduceAdd, Nat.le_refl, cC, Nat.reduceLT, e00, Int.cast_ofNat_Int, Int.reduceLT, decide_true, Int.reduceToNat]
      refine ⟨by omega, loopK_of (fun k : Nat => [(0, .p (.clo g [] [])), (5, .box 5 0), (6, .box 6 0), (8, .box 8 0), (26, .p (.agg [rtP a1, rtP a2])), (27, .p (.val (.int .i64 1))), (9, .p (.val (.int .i64 1))), (10, .p (rtP a2)), (35, .p (.agg [rtP b1, rtP b2])), (36, .p (.val (.int .i64 (k : Nat))))]) (fun k => [(5, (25, [rtP b1, rtP b2])), (6, (25, [e0, e0])), (8, (133, cC (f a1 b1) (f a1 b2) (f a2 b1) (f a2 b2) (2 + k)))]) (fun _ => []) (fun k => k ≤ 2) (fun k => 2 - k) 0 (Nat.zero_le _) ?_ ?_⟩
      · simp (maxSteps := 10000000) only [isE_nil, is_cons, bo_p, bo_box, any_cons', all_cons', all_nil', Bool.true_or, Bool.or_true, ↓sx, sx, ↓reduceIte, Nat.reduceEqDiff, Nat.reduceBeqDiff]
        trivial
      · intro k hk
        have hk3 : k = 0 ∨ k = 1 ∨ k = 2 := by omega
        rcases hk3 with rfl | rfl | rfl
        · simp (maxSteps := 10000000) only [↓sx, sx, ↓ty, ↓reduceIte, Nat.reduceEqDiff, Nat.reduceAdd, Nat.reduceLeDiff, Nat.reduceLT, pc, ls, and_self, Nat.reduceAdd, cC, Nat.reduceLT, e00, Int.cast_ofNat_Int, Int.reduceLT, decide_true, Int.reduceMul, Int.reduceAdd, w4]
          refine ⟨by omega, CallT.mk (hm a2 b1 (.inr rfl) (.inl rfl)).1 ?_⟩
          simp (maxSteps := 10000000) only [↓sx, sx, ↓ty, ↓reduceIte, Nat.reduceEqDiff, Nat.reduceAdd, Nat.reduceLeDiff, Nat.reduceLT, pc, ls, bs, and_self, Nat.reduceAdd, Nat.reduceLT, e00, Int.reduceAdd, w4, Int.reduceToNat]
          refine ⟨by omega, NextK.mk 1 (by omega) (by omega) ?_⟩
          simp (maxSteps := 10000000) only [isE_nil, is_cons, bo_p, bo_box, any_cons', all_cons', all_nil', Bool.true_or, Bool.or_true, ↓sx, sx, ↓reduceIte, Nat.reduceEqDiff, Nat.reduceBeqDiff]
          trivial
        · simp (maxSteps := 10000000) only [↓sx, sx, ↓ty, ↓reduceIte, Nat.reduceEqDiff, Nat.reduceAdd, Nat.reduceLT, pc, ls, and_self, Nat.reduceAdd, Nat.le_refl, cC, Nat.reduceLT, e00, Int.cast_ofNat_Int, Int.reduceLT, decide_true, Int.reduceMul, Int.reduceAdd, w4, Int.reduceToNat]
          refine ⟨by omega, CallT.mk (hm a2 b2 (.inr rfl) (.inr rfl)).1 ?_⟩
          simp (maxSteps := 10000000) only [↓sx, sx, ↓ty, ↓reduceIte, Nat.reduceEqDiff, Nat.reduceAdd, Nat.reduceLT, pc, ls, bs, and_self, Nat.reduceAdd, Nat.le_refl, Nat.reduceLT, e00, Int.reduceAdd, w4, Int.reduceToNat]
          refine ⟨by omega, NextK.mk 2 (by omega) (by omega) ?_⟩
          simp (maxSteps := 10000000) only [isE_nil, is_cons, bo_p, bo_box, any_cons', all_cons', all_nil', Bool.true_or, Bool.or_true, ↓sx, sx, ↓reduceIte, Nat.reduceEqDiff, Nat.reduceBeqDiff]
          trivial
        · simp (maxSteps := 10000000) only [↓sx, sx, ↓reduceIte, Nat.reduceEqDiff, Nat.reduceAdd, Nat.reduceLT, pc, Nat.reduceAdd, cC, Nat.reduceLT, e00, Int.cast_ofNat_Int, Int.reduceLT, decide_false, Int.reduceAdd, w4]
          refine NextK.mk 2 (by omega) (by omega) ?_
          simp (maxSteps := 10000000) only [isE_nil, is_cons, bo_p, bo_box, any_cons', all_cons', all_nil', Bool.true_or, Bool.or_true, ↓sx, sx, ↓reduceIte, Nat.reduceEqDiff, Nat.reduceBeqDiff]
          trivial
    · simp (maxSteps := 10000000) only [↓sx, sx, ↓ty, ↓reduceIte, Nat.reduceEqDiff, Nat.reduceLT, Nat.reduceMul, pc, ls, cC, Nat.reduceLT, e00, Int.cast_ofNat_Int, Int.reduceLT, decide_false, Int.reduceToNat]
      have k11 := (hm a1 b1 (.inl rfl) (.inl rfl)).2
      have k12 := (hm a1 b2 (.inl rfl) (.inr rfl)).2
      have k21 := (hm a2 b1 (.inr rfl) (.inl rfl)).2
      have k22 := (hm a2 b2 (.inr rfl) (.inr rfl)).2
      refine ⟨by omega, CallT.mk (ends_n (f a1 b1) [f a1 b2, f a2 b1, f a2 b2] k11 (by simp [k12, k21, k22]) (by simp)) ?_⟩
      simp (maxSteps := 10000000) only [↓sx, sx, ↓ty, ↓reduceIte, Nat.reduceEqDiff, Nat.reduceAdd, pc, ls, bs, and_self, Nat.reduceAdd, Nat.le_refl, pi]
set_option maxRecDepth 100000 in
theorem corners_no (g : FuncId) (a1 a2 b1 b2 : List UInt8) (ha1 : a1.length < 90000) (ha2 : a2.length < 90000) (hb1 : b1.length < 90000) (hb2 : b2.length < 90000) (h : (isIv a1 a2 && isIv b1 b2) = false) :
    Meets Tryz.prog Gd 80 [.clo g [] [], ivP a1 a2, ivP b1 b2] (.tup [ivP [] [], iP 1]) := by
  refine meets_of_vc (Y := { sf := [133] }) (N := 56) (rs := [.cell 6 25, .tmp 7]) mix tk gd Tryz.func80 rfl (by kernel_rfl) rfl rfl (by simp) (by kernel_rfl) ?_
  simp (maxSteps := 10000000) only [↓sx, sx, ↓ty, ↓reduceIte, Nat.reduceEqDiff, Nat.reduceAdd, ls, Nat.reduceAdd, Nat.le_refl, pi]
  refine CallT.mk (ivalid2_n a1 a2 ha1 ha2) ?_
  cases h1 : isIv a1 a2 with
  | false =>
    simp (maxSteps := 10000000) only [↓sx, sx, ↓ty, ↓reduceIte, Nat.reduceEqDiff, Nat.reduceAdd, Nat.reduceLT, pc, ls, bs, and_self, Nat.reduceAdd, Nat.le_refl, pi]
  | true =>
    rw [h1, Bool.true_and] at h
    simp (maxSteps := 10000000) only [↓sx, sx, ↓ty, ↓reduceIte, Nat.reduceEqDiff, Nat.reduceAdd, Nat.reduceLT, ls, Nat.reduceAdd, Nat.le_refl]
    refine CallT.mk (ivalid2_n b1 b2 hb1 hb2) ?_
    rw [h]
    simp (maxSteps := 10000000) only [↓sx, sx, ↓ty, ↓reduceIte, Nat.reduceEqDiff, Nat.reduceAdd, Nat.reduceLT, pc, ls, bs, and_self, Nat.reduceAdd, Nat.le_refl, pi]
end Go.Proofs.YtolehnkoocnenaaGreatDoor.S
namespace Gb
open Go Go.RowKit Go.Sx
def corQ (f : Rat → Rat → Rat) (a1 a2 b1 b2 : Rat) : Rat × Rat := endsQ (f a1 b1, f a1 b1) [f a1 b2, f a2 b1, f a2 b2]
def icorP (f : Rat → Rat → Rat) (a1 a2 b1 b2 : List UInt8) : PV := if isIv a1 a2 && isIv b1 b2 then .tup [ivQ (corQ f (ratOf a1) (ratOf a2) (ratOf b1) (ratOf b2)), iP 0] else .tup [ivP [] [], iP 1]
def zeroIn (a1 a2 : List UInt8) : Bool := isIv a1 a2 && !decide (0 < ratOf a1) && !decide (ratOf a2 < 0)
def idivP (a1 a2 b1 b2 : List UInt8) : PV := if isIv a1 a2 && zeroIn b1 b2 then .tup [ivP [] [], iP 16] else icorP (· / ·) a1 a2 b1 b2
theorem ratOf_0 : ratOf [48] = 0 := by
  have := ratOf_rT 0
  rwa [rT_0] at this
theorem isRat_0 : isRat [48] = true := by
  have := isRat_rT 0
  rwa [rT_0] at this
theorem Sz0 (k : Nat) (hk : 1 ≤ k) : Sz k 0 := Sz.int (z := 0) (by rw [Int.natAbs_zero, Lw_zero]; omega) hk
end Gb
namespace Go.Proofs.YtolehnkoocnenaaGreatDoor.S
open Go Go.Sx Go.RowKit Gb Go.Shelf
theorem rop_q {F : FuncId} {f : Rat → Rat → Rat} (h : ∀ a b : List UInt8, a.length < 90000 → b.length < 90000 → Meets Tryz.prog Gd F [strP a, strP b] (ropP f a b)) (x y : Rat) (hx : Sz 4000 x) (hy : Sz 4000 y) :
    Meets Tryz.prog Gd F [rtP x, rtP y] (.tup [rtP (f x y), iP 0]) := by
  have := h (rT x) (rT y) (by have := rT_len hx; omega) (by have := rT_len hy; omega)
  unfold ropP at this
  rw [isRat_rT, isRat_rT, ratOf_rT, ratOf_rT] at this
  exact this
theorem rdiv_q (x y : Rat) (hx : Sz 4000 x) (hy : Sz 4000 y) (h0 : y ≠ 0) : Meets Tryz.prog Gd 113 [rtP x, rtP y] (.tup [rtP (x / y), iP 0]) := by
  have := rdiv_n (rT x) (rT y) (by have := rT_len hx; omega) (by have := rT_len hy; omega)
  unfold rdivP at this
  rw [isRat_rT, isRat_rT, ratOf_rT, ratOf_rT, if_neg h0] at this
  exact this
theorem cor_q {F : FuncId} (f : Rat → Rat → Rat) (a1 a2 b1 b2 : List UInt8) (ha1 : a1.length < 13000) (ha2 : a2.length < 13000) (hb1 : b1.length < 13000) (hb2 : b2.length < 13000)
    (h : isIv a1 a2 = true → isIv b1 b2 = true → ∀ x y, Sz 1500 x → Sz 1500 y → (y = ratOf b1 ∨ y = ratOf b2) → Meets Tryz.prog Gd F [rtP x, rtP y] (.tup [rtP (f x y), iP 0]) ∧ Sz 4000 (f x y)) :
    Meets Tryz.prog Gd 80 [.clo F [] [], ivP a1 a2, ivP b1 b2] (icorP f a1 a2 b1 b2) := by
  unfold icorP
  cases hv : (isIv a1 a2 && isIv b1 b2) with
  | false => exact corners_no F a1 a2 b1 b2 (by omega) (by omega) (by omega) (by omega) hv
  | true =>
    obtain ⟨h1, h2⟩ := and_split hv
    replace h := h h1 h2
    obtain ⟨v1, v2, v3⟩ := isIv_spec h1
    obtain ⟨v4, v5, v6⟩ := isIv_spec h2
    obtain ⟨a1, rfl, sa1⟩ := rT_of v1
    obtain ⟨a2, rfl, sa2⟩ := rT_of v2
    obtain ⟨b1, rfl, sb1⟩ := rT_of v4
    obtain ⟨b2, rfl, sb2⟩ := rT_of v5
    rw [ratOf_rT, ratOf_rT] at h v3 v6
    rw [ratOf_rT, ratOf_rT, ratOf_rT, ratOf_rT]
    have sa1 := sa1.mono (m := 1500) (by omega)
    have sa2 := sa2.mono (m := 1500) (by omega)
    have sb1 := sb1.mono (m := 1500) (by omega)
    have sb2 := sb2.mono (m := 1500) (by omega)
    refine corners_ok F f a1 a2 b1 b2 v3 v6 sa1 sa2 sb1 sb2 fun x y hx hy => ?_
    refine h x y ?_ ?_ hy
    · rcases hx with rfl | rfl
      · exact sa1
      · exact sa2
    · rcases hy with rfl | rfl
      · exact sb1
      · exact sb2
set_option maxRecDepth 100000 in
theorem isub2_n (a1 a2 b1 b2 : List UInt8) (ha1 : a1.length < 13000) (ha2 : a2.length < 13000) (hb1 : b1.length < 13000) (hb2 : b2.length < 13000) : Meets Tryz.prog Gd 35 [ivP a1 a2, ivP b1 b2] (icorP (· - ·) a1 a2 b1 b2) := by
  refine meets_of_vc (Y := {}) (N := 11) (rs := [.cell 4 25, .tmp 5]) mix tk gd Tryz.func35 rfl (by kernel_rfl) rfl rfl (by simp) (by kernel_rfl) ?_
  simp (maxSteps := 10000000) only [↓sx, sx, ↓ty, ↓reduceIte, Nat.reduceEqDiff, Nat.reduceAdd, ls, Nat.reduceAdd, Nat.le_refl, pi]
  refine CallT.mk (cor_q (· - ·) a1 a2 b1 b2 ha1 ha2 hb1 hb2 fun _ _ x y hx hy _ => ⟨rop_q rsub_n x y (hx.mono (by omega)) (hy.mono (by omega)), (hx.sub hy).mono (by omega)⟩) ?_
  unfold icorP
  split
  · simp (maxSteps := 10000000) only [↓sx, sx, ↓ty, ↓reduceIte, Nat.reduceEqDiff, Nat.reduceAdd, pc, ls, bs, and_self, Nat.reduceAdd, Nat.le_refl, pi]
  · simp (maxSteps := 10000000) only [↓sx, sx, ↓ty, ↓reduceIte, Nat.reduceEqDiff, Nat.reduceAdd, pc, ls, bs, and_self, Nat.reduceAdd, Nat.le_refl, pi]
theorem zhas_n (a b : List UInt8) (ha : a.length < 36000) (hb : b.length < 36000) : Meets Tryz.prog Gd 37 [ivP a b, strP [48]] (.val (.bool (zeroIn a b))) := by
  have := has_n a b [48] ha hb (by simp)
  rw [isRat_0, ratOf_0, Bool.and_true] at this
  exact this
set_option maxRecDepth 100000 in
set_option maxHeartbeats 4000000 in
theorem idiv2_n (a1 a2 b1 b2 : List UInt8) (ha1 : a1.length < 13000) (ha2 : a2.length < 13000) (hb1 : b1.length < 13000) (hb2 : b2.length < 13000) : Meets Tryz.prog Gd 89 [ivP a1 a2, ivP b1 b2] (idivP a1 a2 b1 b2) := by
  refine meets_of_vc (Y := {}) (N := 18) (rs := [.cell 4 25, .tmp 5]) mix tk gd Tryz.func89 rfl (by kernel_rfl) rfl rfl (by simp) (by kernel_rfl) ?_
  have main : (isIv a1 a2 && zeroIn b1 b2) = false → Meets Tryz.prog Gd 80 [.clo 113 [] [], ivP a1 a2, ivP b1 b2] (icorP (· / ·) a1 a2 b1 b2) := by
    intro h
    refine cor_q (· / ·) a1 a2 b1 b2 ha1 ha2 hb1 hb2 fun g1 g2 x y hx hy hy2 => ⟨rdiv_q x y (hx.mono (by omega)) (hy.mono (by omega)) ?_, (hx.div hy (by omega)).mono (by omega)⟩
    obtain ⟨_, _, g3⟩ := isIv_spec g2
    unfold zeroIn at h
    rw [g1, g2] at h
    simp only [Bool.true_and, Bool.and_eq_false_iff, Bool.not_eq_false', decide_eq_true_eq] at h
    rintro rfl
    rcases hy2 with h0 | h0 <;> rw [← h0] at h g3 <;> grind
  unfold idivP
  simp (maxSteps := 10000000) only [↓sx, sx, ↓ty, ↓reduceIte, Nat.reduceEqDiff, Nat.reduceAdd, ls, Nat.reduceAdd, Nat.le_refl, pi]
  refine CallT.mk (ivalid2_n a1 a2 (by omega) (by omega)) ?_
  cases h : isIv a1 a2 with
  | false =>
    rw [Bool.false_and]
    simp only [Bool.false_eq_true, if_false]
    simp (maxSteps := 10000000) only [↓sx, sx, ↓ty, ↓reduceIte, Nat.reduceEqDiff, Nat.reduceAdd, Nat.reduceLT, ls, Nat.reduceAdd, Nat.le_refl]
    refine CallT.mk (t := ⟨⟩) (main (by rw [h]; rfl)) ?_
    unfold icorP
    split
    · simp (maxSteps := 10000000) only [↓sx, sx, ↓ty, ↓reduceIte, Nat.reduceEqDiff, Nat.reduceAdd, pc, ls, bs, and_self, Nat.reduceAdd, Nat.le_refl, pi]
    · simp (maxSteps := 10000000) only [↓sx, sx, ↓ty, ↓reduceIte, Nat.reduceEqDiff, Nat.reduceAdd, pc, ls, bs, and_self, Nat.reduceAdd, Nat.le_refl, pi]
  | true =>
    rw [Bool.true_and]
    simp (maxSteps := 10000000) only [↓sx, sx, ↓ty, ↓reduceIte, Nat.reduceEqDiff, Nat.reduceAdd, Nat.reduceLT, ls, Nat.reduceAdd, Nat.le_refl]
    refine CallT.mk (t := ⟨⟩) (zhas_n b1 b2 (by omega) (by omega)) ?_
    cases hz : zeroIn b1 b2 with
    | false =>
      simp only [Bool.false_eq_true, if_false]
      simp (maxSteps := 10000000) only [↓sx, sx, ↓ty, ↓reduceIte, Nat.reduceEqDiff, Nat.reduceAdd, ls, Nat.reduceAdd, Nat.le_refl]
      refine CallT.mk (t := ⟨⟩) (main (by rw [hz, Bool.and_false])) ?_
      unfold icorP
      split
      · simp (maxSteps := 10000000) only [↓sx, sx, ↓ty, ↓reduceIte, Nat.reduceEqDiff, Nat.reduceAdd, pc, ls, bs, and_self, Nat.reduceAdd, Nat.le_refl, pi]
      · simp (maxSteps := 10000000) only [↓sx, sx, ↓ty, ↓reduceIte, Nat.reduceEqDiff, Nat.reduceAdd, pc, ls, bs, and_self, Nat.reduceAdd, Nat.le_refl, pi]
    | true =>
      simp only [if_true]
      simp (maxSteps := 10000000) only [↓sx, sx, ↓ty, ↓reduceIte, Nat.reduceEqDiff, Nat.reduceAdd, pc, ls, bs, and_self, Nat.reduceAdd, Nat.le_refl, pi]
end Go.Proofs.YtolehnkoocnenaaGreatDoor.S
namespace Gb
open Go Go.RowKit Go.Sx
def imeetP (a1 a2 b1 b2 : List UInt8) : PV := if isIv a1 a2 && isIv b1 b2 && !decide (ratOf a2 < ratOf b1) && !decide (ratOf b2 < ratOf a1) then .tup [ivQ ((endsQ (ratOf a1, ratOf a1) [ratOf b1]).2, (endsQ (ratOf a2, ratOf a2) [ratOf b2]).1), .val (.bool true)] else .tup [ivP [] [], .val (.bool false)]
theorem rT_int (z : Int) : rT (z : Rat) = iD z := by unfold rT; rw [Rat.den_intCast, if_pos rfl, Rat.num_intCast]
end Gb
namespace Go.Proofs.YtolehnkoocnenaaGreatDoor.S
open Go Go.Sx Go.RowKit Gb Go.Shelf
set_option maxRecDepth 100000 in
set_option maxHeartbeats 4000000 in
theorem imeet_n (a1 a2 b1 b2 : List UInt8) (ha1 : a1.length < 13000) (ha2 : a2.length < 13000) (hb1 : b1.length < 13000) (hb2 : b2.length < 13000) : Meets Tryz.prog Gd 21 [ivP a1 a2, ivP b1 b2] (imeetP a1 a2 b1 b2) := by
  refine meets_of_vc (Y := {}) (N := 44) (rs := [.cell 4 25, .tmp 5]) mix tk gd Tryz.func21 rfl (by kernel_rfl) rfl rfl (by simp) (by kernel_rfl) ?_
  unfold imeetP
  simp (maxSteps := 10000000) only [↓sx, sx, ↓ty, ↓reduceIte, Nat.reduceEqDiff, Nat.reduceAdd, ls, Nat.reduceAdd, Nat.le_refl, pi]
  refine CallT.mk (ivalid2_n a1 a2 (by omega) (by omega)) ?_
  cases h1 : isIv a1 a2 with
  | false =>
    simp only [Bool.false_and, Bool.false_eq_true, if_false]
    simp (maxSteps := 10000000) only [↓sx, sx, ↓ty, ↓reduceIte, Nat.reduceEqDiff, Nat.reduceAdd, Nat.reduceLT, ls, bs, and_self, Nat.reduceAdd, Nat.le_refl, pi]
  | true =>
    simp only [Bool.true_and]
    simp (maxSteps := 10000000) only [↓sx, sx, ↓ty, ↓reduceIte, Nat.reduceEqDiff, Nat.reduceAdd, Nat.reduceLT, ls, Nat.reduceAdd, Nat.le_refl]
    refine CallT.mk (ivalid2_n b1 b2 (by omega) (by omega)) ?_
    cases h2 : isIv b1 b2 with
    | false =>
      simp only [Bool.false_and, Bool.false_eq_true, if_false]
      simp (maxSteps := 10000000) only [↓sx, sx, ↓ty, ↓reduceIte, Nat.reduceEqDiff, Nat.reduceAdd, Nat.reduceLT, ls, bs, and_self, Nat.reduceAdd, Nat.le_refl, pi]
    | true =>
      simp only [Bool.true_and]
      obtain ⟨v1, v2, v3⟩ := isIv_spec h1
      obtain ⟨v4, v5, v6⟩ := isIv_spec h2
      obtain ⟨a1, rfl, sa1⟩ := rT_of v1
      obtain ⟨a2, rfl, sa2⟩ := rT_of v2
      obtain ⟨b1, rfl, sb1⟩ := rT_of v4
      obtain ⟨b2, rfl, sb2⟩ := rT_of v5
      rw [ratOf_rT, ratOf_rT, ratOf_rT, ratOf_rT]
      have sa1 := sa1.mono (m := 4000) (by omega)
      have sa2 := sa2.mono (m := 4000) (by omega)
      have sb1 := sb1.mono (m := 4000) (by omega)
      have sb2 := sb2.mono (m := 4000) (by omega)
      simp (maxSteps := 10000000) only [↓sx, sx, ↓ty, ↓reduceIte, Nat.reduceEqDiff, Nat.reduceAdd, Nat.reduceLT, ne_eq, not_false_eq_true, ls, Nat.reduceAdd]
      refine CallT.mk (t := ⟨⟩) (less_q a2 b1 sa2 sb1) ?_
      by_cases c1 : a2 < b1
      · simp only [c1, decide_true, Bool.not_true, Bool.false_and, Bool.false_eq_true, if_false]
        simp (maxSteps := 10000000) only [↓sx, sx, ↓ty, ↓reduceIte, Nat.reduceEqDiff, Nat.reduceAdd, Nat.reduceLT, ls, bs, and_self, Nat.reduceAdd, Nat.le_refl, pi]
      · simp only [c1, decide_false, Bool.not_false, Bool.true_and]
        simp (maxSteps := 10000000) only [↓sx, sx, ↓ty, ↓reduceIte, Nat.reduceEqDiff, Nat.reduceAdd, Nat.reduceLT, ne_eq, not_false_eq_true, ls, Nat.reduceAdd]
        refine CallT.mk (t := ⟨⟩) (less_q b2 a1 sb2 sa1) ?_
        by_cases c2 : b2 < a1
        · simp only [c2, decide_true, Bool.not_true, Bool.false_eq_true, if_false]
          simp (maxSteps := 10000000) only [↓sx, sx, ↓ty, ↓reduceIte, Nat.reduceEqDiff, Nat.reduceAdd, ls, bs, and_self, Nat.reduceAdd, Nat.le_refl, pi]
        · simp only [c2, decide_false, Bool.not_false, if_true]
          simp (maxSteps := 10000000) only [↓sx, sx, ↓ty, ↓reduceIte, Nat.reduceEqDiff, Nat.reduceAdd, Nat.reduceLeDiff, ne_eq, not_false_eq_true, ls, and_self, Nat.reduceAdd, Nat.le_refl]
          refine CallT.mk (ends_n a1 [b1] sa1 (by simp [sb1]) (by simp)) ?_
          simp (maxSteps := 10000000) only [↓sx, sx, ↓ty, ↓reduceIte, Nat.reduceEqDiff, Nat.reduceAdd, Nat.reduceLeDiff, ne_eq, not_false_eq_true, ls, and_self, Nat.reduceAdd, Nat.le_refl, pi]
          refine CallT.mk (ends_n a2 [b2] sa2 (by simp [sb2]) (by simp)) ?_
          simp (maxSteps := 10000000) only [↓sx, sx, ↓ty, ↓reduceIte, Nat.reduceEqDiff, Nat.reduceAdd, Nat.reduceLeDiff, ls, bs, and_self, Nat.reduceAdd, Nat.le_refl, pi]
theorem itoa_n (z : Int) (h1 : -9223372036854775808 ≤ z) (h2 : z ≤ 9223372036854775807) : Meets Tryz.prog Gd 170 [iP z] (siP z) := by
  refine meets_val [.int .i64 z] (.string ⟨(iD z).toArray⟩) (enters_of Tryz.func170 (by kernel_rfl) rfl) ?_ ?_
  · intro B w
    simp [siP_c, RepP]
  · intro w hw
    refine (Tryz.strconv_Itoa z h1 h2 w hw).mono ?_
    rintro e w' ⟨rfl, k, os, rfl⟩
    rw [itoa_iD]
    exact ⟨rfl, Lib.below_grow _ w (Nat.le_refl _) k os⟩
end Go.Proofs.YtolehnkoocnenaaGreatDoor.S
namespace Gb
open Go Go.RowKit Go.Sx
end Gb
namespace Go.Proofs.YtolehnkoocnenaaGreatDoor.S
open Go Go.Sx Go.RowKit Gb Go.Shelf
end Go.Proofs.YtolehnkoocnenaaGreatDoor.S
namespace Gb
open Go Go.RowKit Go.Sx
def leastQ (x y : Rat) : Rat := if x ≤ y then x else y
def mostQ (x y : Rat) : Rat := if y ≤ x then x else y
def joinQ (p q : Rat × Rat) : Rat × Rat := (leastQ p.1 q.1, mostQ p.2 q.2)
def scaleQ (p : Rat × Rat) (x : Rat) : Rat × Rat := joinQ (p.1 * x, p.1 * x) (p.2 * x, p.2 * x)
def timesQ (p q : Rat × Rat) : Rat × Rat := joinQ (scaleQ p q.1) (scaleQ p q.2)
def overQ (p q : Rat × Rat) : Rat × Rat := timesQ p (q.2⁻¹, q.1⁻¹)
def SzI (k : Nat) (p : Rat × Rat) : Prop := Sz k p.1 ∧ Sz k p.2
theorem SzI.mono {k m : Nat} {p : Rat × Rat} (h : SzI k p) (hm : k ≤ m) : SzI m p := ⟨h.1.mono hm, h.2.mono hm⟩
theorem leastQ_sz {k : Nat} {x y : Rat} (hx : Sz k x) (hy : Sz k y) : Sz k (leastQ x y) := by unfold leastQ; split <;> assumption
theorem mostQ_sz {k : Nat} {x y : Rat} (hx : Sz k x) (hy : Sz k y) : Sz k (mostQ x y) := by unfold mostQ; split <;> assumption
theorem joinQ_sz {k : Nat} {p q : Rat × Rat} (hp : SzI k p) (hq : SzI k q) : SzI k (joinQ p q) := ⟨leastQ_sz hp.1 hq.1, mostQ_sz hp.2 hq.2⟩
theorem scaleQ_sz {k : Nat} {p : Rat × Rat} {x : Rat} (hp : SzI k p) (hx : Sz k x) : SzI (2 * k) (scaleQ p x) := joinQ_sz ⟨hp.1.mul hx, hp.1.mul hx⟩ ⟨hp.2.mul hx, hp.2.mul hx⟩
theorem timesQ_sz {k : Nat} {p q : Rat × Rat} (hp : SzI k p) (hq : SzI k q) : SzI (2 * k) (timesQ p q) := joinQ_sz (scaleQ_sz hp hq.1) (scaleQ_sz hp hq.2)
theorem overQ_sz {k : Nat} {p q : Rat × Rat} (hk : 1 ≤ k) (hp : SzI k p) (hq : SzI k q) : SzI (2 * k) (overQ p q) := timesQ_sz hp ⟨hq.2.inv hk, hq.1.inv hk⟩
end Gb
namespace Go.Proofs.YtolehnkoocnenaaGreatDoor.S
open Go Go.Sx Go.RowKit Gb Go.Shelf
end Go.Proofs.YtolehnkoocnenaaGreatDoor.S
namespace Gb
open Go Go.RowKit Go.Sx
theorem ends4 (p q r s : Rat) : endsQ (p, p) [q, r, s] = (leastQ (leastQ p r) (leastQ q s), mostQ (mostQ p r) (mostQ q s)) := by
  simp only [endsQ, List.foldl, leastQ, mostQ]
  grind
theorem leastQ_l {x y : Rat} (h : x ≤ y) : leastQ x y = x := by unfold leastQ; rw [if_pos h]
theorem leastQ_r {x y : Rat} (h : y ≤ x) : leastQ x y = y := by unfold leastQ; split <;> grind
theorem mostQ_l {x y : Rat} (h : y ≤ x) : mostQ x y = x := by unfold mostQ; rw [if_pos h]
theorem mostQ_r {x y : Rat} (h : x ≤ y) : mostQ x y = y := by unfold mostQ; split <;> grind
theorem corQ_sub {a1 a2 b1 b2 : Rat} (ha : a1 ≤ a2) (hb : b1 ≤ b2) : corQ (· - ·) a1 a2 b1 b2 = (a1 - b2, a2 - b1) := by
  unfold corQ
  rw [ends4]
  dsimp only
  rw [leastQ_l (show a1 - b1 ≤ a2 - b1 by grind), leastQ_l (show a1 - b2 ≤ a2 - b2 by grind), leastQ_r (show a1 - b2 ≤ a1 - b1 by grind),
    mostQ_r (show a1 - b1 ≤ a2 - b1 by grind), mostQ_r (show a1 - b2 ≤ a2 - b2 by grind), mostQ_l (show a2 - b2 ≤ a2 - b1 by grind)]
theorem corQ_div {a1 a2 b1 b2 : Rat} : corQ (· / ·) a1 a2 b1 b2 = overQ (a1, a2) (b1, b2) := by
  unfold corQ overQ
  rw [ends4]
  simp only [timesQ, scaleQ, joinQ, Rat.div_def]
  generalize a1 * b1⁻¹ = p
  generalize a1 * b2⁻¹ = q
  generalize a2 * b1⁻¹ = r
  generalize a2 * b2⁻¹ = s
  simp only [leastQ, mostQ]
  grind
theorem sq_nonneg (a : Rat) : 0 ≤ a * a := by
  by_cases h : 0 ≤ a
  · exact Rat.mul_nonneg h h
  · have : 0 ≤ -a * -a := Rat.mul_nonneg (by grind) (by grind)
    grind
theorem meet1 (a1 b1 : Rat) : (endsQ (a1, a1) [b1]).2 = mostQ a1 b1 := by
  simp only [endsQ, List.foldl, mostQ]
  grind
theorem meet2 (a1 b1 : Rat) : (endsQ (a1, a1) [b1]).1 = leastQ a1 b1 := by
  simp only [endsQ, List.foldl, leastQ]
  grind
end Gb
namespace Go.Proofs.YtolehnkoocnenaaGreatDoor.S
open Go Go.Sx Go.RowKit Gb Go.Shelf
end Go.Proofs.YtolehnkoocnenaaGreatDoor.S
namespace Gb
open Go Go.RowKit Go.Sx
end Gb
namespace Go.Proofs.YtolehnkoocnenaaGreatDoor.S
open Go Go.Sx Go.RowKit Gb Go.Shelf
end Go.Proofs.YtolehnkoocnenaaGreatDoor.S
namespace Gb
open Go Go.RowKit Go.Sx
def texts (l : List (List UInt8)) : List PV := l.map strP
theorem take_snocA {α : Type} {l : List α} {i : Nat} {x : α} (hx : l[i]? = some x) : l.take (i + 1) = l.take i ++ [x] := by
  rw [List.take_add_one, hx]; rfl
end Gb
namespace Go.Proofs.YtolehnkoocnenaaGreatDoor.S
open Go Go.Sx Go.RowKit Gb Go.Shelf
end Go.Proofs.YtolehnkoocnenaaGreatDoor.S
namespace Gb
open Go Go.RowKit Go.Sx
def wi (p q : Rat × Rat) : Prop := p.1 ≤ q.1 ∧ q.1 ≤ q.2 ∧ q.2 ≤ p.2
theorem mul_mono {a b x : Rat} (h : a ≤ b) (hx : 0 ≤ x) : a * x ≤ b * x := by have := Rat.mul_nonneg (show 0 ≤ b - a by grind) hx; grind
theorem meet_wi {p q : Rat × Rat} (h : wi p q) : imeetP (rT p.1) (rT p.2) (rT q.1) (rT q.2) = .tup [ivQ q, .val (.bool true)] := by
  obtain ⟨h1, h2, h3⟩ := h
  unfold imeetP
  rw [isIv_rT (show p.1 ≤ p.2 by grind), isIv_rT h2]
  simp only [ratOf_rT]
  rw [if_pos (by simp; grind), meet1, meet2]
  rw [mostQ_r h1, leastQ_r h3]
end Gb
namespace Gb
open Go Go.RowKit Go.Sx
theorem siP_rt (n : Int) : siP n = rtP (n : Rat) := by unfold siP rtP; rw [rT_int]
theorem rtP_1 : rtP 1 = .val (.string ⟨#[49]⟩) := by
  have := siP_rt 1
  rw [show ((1 : Int) : Rat) = 1 from rfl] at this
  rw [← this]
  unfold siP strP
  rw [show iD 1 = [49] from by unfold iD; rw [if_neg (by decide)]; exact dec_1]
theorem Sz1 (k : Nat) (hk : 1 ≤ k) : Sz k 1 := Sz.int (z := 1) (Nat.le_trans (Lw_le (by decide)) hk) hk
end Gb
namespace Gb
open Go Go.RowKit Go.Sx
def inU (x : Rat) : Bool := !decide (1 < x) && !decide (x < 0 - 1)
def achk (L : List (List UInt8)) : Int := if L.all isRat then (if L.all (fun l => inU (ratOf l)) then 0 else 2) else 1
noncomputable def cosQ (x : Rat) : Rat := (1 - x * x) / (1 + x * x)
noncomputable def sinQ (x : Rat) : Rat := 2 * x / (1 + x * x)
noncomputable def acosP (l : List UInt8) : PV := if achk [l] = 0 then .tup [rtP (cosQ (ratOf l)), iP 0] else .tup [strP [], iP (achk [l])]
noncomputable def asinP (l : List UInt8) : PV := if achk [l] = 0 then .tup [rtP (sinQ (ratOf l)), iP 0] else .tup [strP [], iP (achk [l])]
noncomputable def asumP (a b : List UInt8) : PV := if achk [a, b] = 0 then (if 1 - ratOf a * ratOf b = 0 then .tup [strP [], iP 15] else if inU ((ratOf a + ratOf b) / (1 - ratOf a * ratOf b)) then .tup [rtP ((ratOf a + ratOf b) / (1 - ratOf a * ratOf b)), iP 0] else .tup [strP [], iP 15]) else .tup [strP [], iP (achk [a, b])]
theorem rtP_of {l : List UInt8} (h : isRat l = true) : rtP (ratOf l) = strP l := by unfold rtP; rw [rT_ratOf h]
theorem rT_zero6 (y : Rat) : (rT y == [48]) = decide (y = 0) := by
  by_cases h : y = 0
  · subst h; rw [rT_0]; rfl
  · rw [decide_eq_false h, beq_eq_false_iff_ne]
    intro e
    have := congrArg ratOf e
    rw [ratOf_rT, ratOf_0] at this
    exact h this
theorem one_sq (x : Rat) : 1 + x * x ≠ 0 := by have := sq_nonneg x; grind
theorem achk_ok {L : List (List UInt8)} (h : achk L = 0) : ∀ l ∈ L, isRat l = true ∧ inU (ratOf l) = true := by
  unfold achk at h
  split at h
  · rename_i h1
    split at h
    · rename_i h2
      exact fun l hl => ⟨List.all_eq_true.1 h1 l hl, List.all_eq_true.1 h2 l hl⟩
    · omega
  · omega
end Gb
namespace Go.Proofs.YtolehnkoocnenaaGreatDoor.S
open Go Go.Sx Go.RowKit Gb Go.Shelf
set_option maxRecDepth 100000 in
theorem aadd_q (x y : Rat) (hx : Sz 4000 x) (hy : Sz 4000 y) : Meets Tryz.prog Gd 52 [rtP x, rtP y] (rtP (x + y)) := by
  refine meets_of_vc (Y := {}) (N := 14) (rs := [.tmp 4]) mix tk gd Tryz.func52 rfl (by kernel_rfl) rfl rfl (by simp) (by kernel_rfl) ?_
  simp (maxSteps := 10000000) only [↓sx, sx, ↓ty, ↓reduceIte, Nat.reduceEqDiff, Nat.reduceBeqDiff, Nat.reduceAdd, Nat.reduceLeDiff, Nat.reduceLT, Nat.reduceMul, Nat.reduceSub, Int.reduceEq, Int.reduceBNe, Int.reduceBEq, ne_eq, not_false_eq_true, pc, ls, bs, and_true, true_and, and_self, Nat.reduceAdd, Nat.le_refl, leafP]
  refine CallT.mk (t := ⟨⟩) (rop_q radd_n x y hx hy) ?_
  simp (maxSteps := 10000000) only [↓sx, sx, ↓ty, ↓reduceIte, Nat.reduceEqDiff, Nat.reduceBeqDiff, Nat.reduceAdd, Nat.reduceLeDiff, Nat.reduceLT, Nat.reduceMul, Nat.reduceSub, Int.reduceEq, Int.reduceBNe, Int.reduceBEq, ne_eq, not_false_eq_true, pc, ls, bs, and_true, true_and, and_self, Nat.reduceAdd, Nat.le_refl, leafP]
set_option maxRecDepth 100000 in
theorem asub_q (x y : Rat) (hx : Sz 4000 x) (hy : Sz 4000 y) : Meets Tryz.prog Gd 69 [rtP x, rtP y] (rtP (x - y)) := by
  refine meets_of_vc (Y := {}) (N := 14) (rs := [.tmp 4]) mix tk gd Tryz.func69 rfl (by kernel_rfl) rfl rfl (by simp) (by kernel_rfl) ?_
  simp (maxSteps := 10000000) only [↓sx, sx, ↓ty, ↓reduceIte, Nat.reduceEqDiff, Nat.reduceBeqDiff, Nat.reduceAdd, Nat.reduceLeDiff, Nat.reduceLT, Nat.reduceMul, Nat.reduceSub, Int.reduceEq, Int.reduceBNe, Int.reduceBEq, ne_eq, not_false_eq_true, pc, ls, bs, and_true, true_and, and_self, Nat.reduceAdd, Nat.le_refl, leafP]
  refine CallT.mk (t := ⟨⟩) (rop_q rsub_n x y hx hy) ?_
  simp (maxSteps := 10000000) only [↓sx, sx, ↓ty, ↓reduceIte, Nat.reduceEqDiff, Nat.reduceBeqDiff, Nat.reduceAdd, Nat.reduceLeDiff, Nat.reduceLT, Nat.reduceMul, Nat.reduceSub, Int.reduceEq, Int.reduceBNe, Int.reduceBEq, ne_eq, not_false_eq_true, pc, ls, bs, and_true, true_and, and_self, Nat.reduceAdd, Nat.le_refl, leafP]
set_option maxRecDepth 100000 in
theorem amul_q (x y : Rat) (hx : Sz 4000 x) (hy : Sz 4000 y) : Meets Tryz.prog Gd 51 [rtP x, rtP y] (rtP (x * y)) := by
  refine meets_of_vc (Y := {}) (N := 14) (rs := [.tmp 4]) mix tk gd Tryz.func51 rfl (by kernel_rfl) rfl rfl (by simp) (by kernel_rfl) ?_
  simp (maxSteps := 10000000) only [↓sx, sx, ↓ty, ↓reduceIte, Nat.reduceEqDiff, Nat.reduceBeqDiff, Nat.reduceAdd, Nat.reduceLeDiff, Nat.reduceLT, Nat.reduceMul, Nat.reduceSub, Int.reduceEq, Int.reduceBNe, Int.reduceBEq, ne_eq, not_false_eq_true, pc, ls, bs, and_true, true_and, and_self, Nat.reduceAdd, Nat.le_refl, leafP]
  refine CallT.mk (t := ⟨⟩) (rop_q rmul_n x y hx hy) ?_
  simp (maxSteps := 10000000) only [↓sx, sx, ↓ty, ↓reduceIte, Nat.reduceEqDiff, Nat.reduceBeqDiff, Nat.reduceAdd, Nat.reduceLeDiff, Nat.reduceLT, Nat.reduceMul, Nat.reduceSub, Int.reduceEq, Int.reduceBNe, Int.reduceBEq, ne_eq, not_false_eq_true, pc, ls, bs, and_true, true_and, and_self, Nat.reduceAdd, Nat.le_refl, leafP]
set_option maxRecDepth 100000 in
theorem adiv_q (x y : Rat) (hx : Sz 4000 x) (hy : Sz 4000 y) (h0 : y ≠ 0) : Meets Tryz.prog Gd 68 [rtP x, rtP y] (rtP (x / y)) := by
  refine meets_of_vc (Y := {}) (N := 14) (rs := [.tmp 4]) mix tk gd Tryz.func68 rfl (by kernel_rfl) rfl rfl (by simp) (by kernel_rfl) ?_
  have D := rdiv_n (rT x) (rT y) (by have := rT_len hx; omega) (by have := rT_len hy; omega)
  unfold rdivP at D
  rw [isRat_rT, isRat_rT, if_pos (show (true && true) = true from rfl), ratOf_rT, ratOf_rT, if_neg h0] at D
  simp (maxSteps := 10000000) only [↓sx, sx, ↓ty, ↓reduceIte, Nat.reduceEqDiff, Nat.reduceBeqDiff, Nat.reduceAdd, Nat.reduceLeDiff, Nat.reduceLT, Nat.reduceMul, Nat.reduceSub, Int.reduceEq, Int.reduceBNe, Int.reduceBEq, ne_eq, not_false_eq_true, pc, ls, bs, and_true, true_and, and_self, Nat.reduceAdd, Nat.le_refl, leafP]
  refine CallT.mk (t := ⟨⟩) D ?_
  simp (maxSteps := 10000000) only [↓sx, sx, ↓ty, ↓reduceIte, Nat.reduceEqDiff, Nat.reduceBeqDiff, Nat.reduceAdd, Nat.reduceLeDiff, Nat.reduceLT, Nat.reduceMul, Nat.reduceSub, Int.reduceEq, Int.reduceBNe, Int.reduceBEq, ne_eq, not_false_eq_true, pc, ls, bs, and_true, true_and, and_self, Nat.reduceAdd, Nat.le_refl, leafP]
set_option maxRecDepth 100000 in
theorem aless_q (x y : Rat) (hx : Sz 4000 x) (hy : Sz 4000 y) : Meets Tryz.prog Gd 53 [rtP x, rtP y] (.val (.bool (decide (x < y)))) := by
  refine meets_of_vc (Y := {}) (N := 15) (rs := [.tmp 4]) mix tk gd Tryz.func53 rfl (by kernel_rfl) rfl rfl (by simp) (by kernel_rfl) ?_
  have h : decide ((x - y).num.sign < 0) = decide (x < y) := by congr 1; exact propext (lt_sign x y)
  simp (maxSteps := 10000000) only [↓sx, sx, ↓ty, ↓reduceIte, Nat.reduceEqDiff, Nat.reduceBeqDiff, Nat.reduceAdd, Nat.reduceLeDiff, Nat.reduceLT, Nat.reduceMul, Nat.reduceSub, Int.reduceEq, Int.reduceBNe, Int.reduceBEq, ne_eq, not_false_eq_true, pc, ls, bs, and_true, true_and, and_self, Nat.reduceAdd, Nat.le_refl, leafP]
  refine CallT.mk (t := ⟨⟩) (rcmp_q x y hx hy) ?_
  simp (maxSteps := 10000000) only [↓sx, sx, ↓ty, ↓reduceIte, Nat.reduceEqDiff, Nat.reduceBeqDiff, Nat.reduceAdd, Nat.reduceLeDiff, Nat.reduceLT, Nat.reduceMul, Nat.reduceSub, Int.reduceEq, Int.reduceBNe, Int.reduceBEq, ne_eq, not_false_eq_true, pc, ls, bs, and_true, true_and, and_self, Nat.reduceAdd, Nat.le_refl, leafP, h]
set_option maxRecDepth 100000 in
theorem awhole_n (n : Int) (h0 : -1000000000 < n) (h1 : n < 1000000000) : Meets Tryz.prog Gd 149 [iP n] (rtP (n : Rat)) := by
  refine meets_of_vc (Y := {}) (N := 5) (rs := [.tmp 2]) mix tk gd Tryz.func149 rfl (by kernel_rfl) rfl rfl (by simp) (by kernel_rfl) ?_
  have I := itoa_n n (by omega) (by omega)
  rw [siP_rt] at I
  simp (maxSteps := 10000000) only [↓sx, sx, ↓ty, ↓reduceIte, Nat.reduceEqDiff, Nat.reduceBeqDiff, Nat.reduceAdd, Nat.reduceLeDiff, Nat.reduceLT, Nat.reduceMul, Nat.reduceSub, Int.reduceEq, Int.reduceBNe, Int.reduceBEq, ne_eq, not_false_eq_true, pc, ls, bs, and_true, true_and, and_self, Nat.reduceAdd, Nat.le_refl, leafP]
  refine CallT.mk (t := ⟨⟩) I ?_
  simp (maxSteps := 10000000) only [↓sx, sx, ↓ty, ↓reduceIte, Nat.reduceEqDiff, Nat.reduceBeqDiff, Nat.reduceAdd, Nat.reduceLeDiff, Nat.reduceLT, Nat.reduceMul, Nat.reduceSub, Int.reduceEq, Int.reduceBNe, Int.reduceBEq, ne_eq, not_false_eq_true, pc, ls, bs, and_true, true_and, and_self, Nat.reduceAdd, Nat.le_refl, leafP]
set_option maxRecDepth 100000 in
theorem awithin_q (x e : Rat) (hx : Sz 400 x) (he : Sz 400 e) : Meets Tryz.prog Gd 50 [rtP x, rtP e] (.val (.bool (!decide (e < x) && !decide (x < 0 - e)))) := by
  refine meets_of_vc (Y := {}) (N := 16) (rs := [.tmp 4]) mix tk gd Tryz.func50 rfl (by kernel_rfl) rfl rfl (by simp) (by kernel_rfl) ?_
  have S := asub_q 0 e (Sz0 _ (by omega)) (he.mono (by omega))
  rw [show rtP 0 = strP [48] from rtP_0] at S
  have zs := (Sz0 400 (by omega)).sub he
  simp (maxSteps := 10000000) only [↓sx, sx, ↓ty, ↓reduceIte, Nat.reduceEqDiff, Nat.reduceBeqDiff, Nat.reduceAdd, Nat.reduceLeDiff, Nat.reduceLT, Nat.reduceMul, Nat.reduceSub, Int.reduceEq, Int.reduceBNe, Int.reduceBEq, ne_eq, not_false_eq_true, pc, ls, bs, and_true, true_and, and_self, Nat.reduceAdd, Nat.le_refl, leafP]
  refine CallT.mk (t := ⟨⟩) (aless_q e x (he.mono (by omega)) (hx.mono (by omega))) ?_
  cases h1 : decide (e < x) with
  | true => simp (maxSteps := 10000000) only [↓sx, sx, ↓ty, ↓reduceIte, Nat.reduceEqDiff, Nat.reduceBeqDiff, Nat.reduceAdd, Nat.reduceLeDiff, Nat.reduceLT, Nat.reduceMul, Nat.reduceSub, Int.reduceEq, Int.reduceBNe, Int.reduceBEq, ne_eq, not_false_eq_true, pc, ls, bs, and_true, true_and, and_self, Nat.reduceAdd, Nat.le_refl, leafP]
  | false =>
    simp (maxSteps := 10000000) only [↓sx, sx, ↓ty, ↓reduceIte, Nat.reduceEqDiff, Nat.reduceBeqDiff, Nat.reduceAdd, Nat.reduceLeDiff, Nat.reduceLT, Nat.reduceMul, Nat.reduceSub, Int.reduceEq, Int.reduceBNe, Int.reduceBEq, ne_eq, not_false_eq_true, pc, ls, bs, and_true, true_and, and_self, Nat.reduceAdd, Nat.le_refl, leafP]
    refine CallT.mk (t := ⟨⟩) S ?_
    simp (maxSteps := 10000000) only [↓sx, sx, ↓ty, ↓reduceIte, Nat.reduceEqDiff, Nat.reduceBeqDiff, Nat.reduceAdd, Nat.reduceLeDiff, Nat.reduceLT, Nat.reduceMul, Nat.reduceSub, Int.reduceEq, Int.reduceBNe, Int.reduceBEq, ne_eq, not_false_eq_true, pc, ls, bs, and_true, true_and, and_self, Nat.reduceAdd, Nat.le_refl, leafP]
    refine CallT.mk (t := ⟨⟩) (aless_q x (0 - e) (hx.mono (by omega)) (zs.mono (by omega))) ?_
    simp (maxSteps := 10000000) only [↓sx, sx, ↓ty, ↓reduceIte, Nat.reduceEqDiff, Nat.reduceBeqDiff, Nat.reduceAdd, Nat.reduceLeDiff, Nat.reduceLT, Nat.reduceMul, Nat.reduceSub, Int.reduceEq, Int.reduceBNe, Int.reduceBEq, ne_eq, not_false_eq_true, pc, ls, bs, and_true, true_and, and_self, Nat.reduceAdd, Nat.le_refl, leafP]
set_option maxRecDepth 100000 in
theorem ain_q (x : Rat) (hx : Sz 400 x) : Meets Tryz.prog Gd 50 [rtP x, strP [49]] (.val (.bool (inU x))) := by
  have := awithin_q x 1 hx (Sz1 _ (by omega))
  rw [show rtP 1 = strP [49] from rtP_1] at this
  exact this
set_option maxRecDepth 100000 in
theorem avalid_n (l : List UInt8) (hl : l.length < 3000) : Meets Tryz.prog Gd 20 [strP l] (.val (.bool (isRat l && inU (ratOf l)))) := by
  refine meets_of_vc (Y := {}) (N := 9) (rs := [.tmp 2]) mix tk gd Tryz.func20 rfl (by kernel_rfl) rfl rfl (by simp) (by kernel_rfl) ?_
  simp (maxSteps := 10000000) only [↓sx, sx, ↓ty, ↓reduceIte, Nat.reduceEqDiff, Nat.reduceBeqDiff, Nat.reduceAdd, Nat.reduceLeDiff, Nat.reduceLT, Nat.reduceMul, Nat.reduceSub, Int.reduceEq, Int.reduceBNe, Int.reduceBEq, ne_eq, not_false_eq_true, pc, ls, bs, and_true, true_and, and_self, Nat.reduceAdd, Nat.le_refl, leafP]
  refine CallT.mk (t := ⟨⟩) (rvalid_n l (by omega)) ?_
  cases h : isRat l with
  | false => simp (maxSteps := 10000000) only [↓sx, sx, ↓ty, ↓reduceIte, Nat.reduceEqDiff, Nat.reduceBeqDiff, Nat.reduceAdd, Nat.reduceLeDiff, Nat.reduceLT, Nat.reduceMul, Nat.reduceSub, Int.reduceEq, Int.reduceBNe, Int.reduceBEq, ne_eq, not_false_eq_true, pc, ls, bs, and_true, true_and, and_self, Nat.reduceAdd, Nat.le_refl, leafP]
  | true =>
    have W := ain_q (ratOf l) ((Sz.of h (k := 399) (by omega)).mono (by omega))
    rw [rtP_of h] at W
    simp (maxSteps := 10000000) only [↓sx, sx, ↓ty, ↓reduceIte, Nat.reduceEqDiff, Nat.reduceBeqDiff, Nat.reduceAdd, Nat.reduceLeDiff, Nat.reduceLT, Nat.reduceMul, Nat.reduceSub, Int.reduceEq, Int.reduceBNe, Int.reduceBEq, ne_eq, not_false_eq_true, pc, ls, bs, and_true, true_and, and_self, Nat.reduceAdd, Nat.le_refl, leafP]
    refine CallT.mk (t := ⟨⟩) W ?_
    simp (maxSteps := 10000000) only [↓sx, sx, ↓ty, ↓reduceIte, Nat.reduceEqDiff, Nat.reduceBeqDiff, Nat.reduceAdd, Nat.reduceLeDiff, Nat.reduceLT, Nat.reduceMul, Nat.reduceSub, Int.reduceEq, Int.reduceBNe, Int.reduceBEq, ne_eq, not_false_eq_true, pc, ls, bs, and_true, true_and, and_self, Nat.reduceAdd, Nat.le_refl, leafP]
set_option maxRecDepth 100000 in
set_option maxHeartbeats 8000000 in
theorem acheck_n (L : List (List UInt8)) (hL : L.length < 100) (hs : ∀ x ∈ L, x.length < 3000) : Meets Tryz.prog Gd 67 [.sl L.length (texts L)] (iP (achk L)) := by
  refine meets_of_vc (Y := {}) (N := 27) (rs := [.tmp 2]) mix tk gd Tryz.func67 rfl (by kernel_rfl) rfl rfl (by simp) (by kernel_rfl) ?_
  have hn : (texts L).length = L.length := by unfold texts; simp
  simp (maxSteps := 10000000) only [↓sx, sx, ↓ty, ↓reduceIte, Nat.reduceEqDiff, Nat.reduceBeqDiff, Nat.reduceAdd, Nat.reduceLeDiff, Nat.reduceLT, Nat.reduceMul, Nat.reduceSub, Int.reduceEq, Int.reduceBNe, Int.reduceBEq, ne_eq, not_false_eq_true, pc, ls, bs, and_true, true_and, and_self, Nat.reduceAdd, Nat.le_refl, leafP]
  refine loopK_of (fun i : Nat => [(0, .p (.sl L.length (texts L))), (2, .p (iP 0)), (7, .p (.sl L.length (texts L))), (8, .p (.val (.int .i64 (L.length : Nat)))), (9, .p (.val (.int .i64 (i : Nat))))]) (fun _ => []) (fun _ => []) (fun i => i ≤ L.length ∧ ∀ y ∈ L.take i, isRat y = true) (fun i => L.length - i) 0 ⟨Nat.zero_le _, by simp⟩ ?_ ?_
  · simp (maxSteps := 10000000) only [isE_nil, is_cons, bo_p, bo_box, bo_orow, bo_rowp, any_cons', all_cons', all_nil', Bool.true_or, Bool.or_true, ↓sx, sx, ↓reduceIte, Nat.reduceEqDiff, Nat.reduceBeqDiff]
    try trivial
  · rintro i ⟨hi, hv⟩
    by_cases hil : i < L.length
    · have e1 : decide ((i : Int) < (L.length : Int)) = true := decide_eq_true (by omega)
      obtain ⟨a, ha⟩ : ∃ a, L[i]? = some a := ⟨L[i], List.getElem?_eq_getElem hil⟩
      have hm : a ∈ L := List.mem_of_getElem? ha
      have hd : (texts L)[i]? = some (strP a) := by unfold texts; rw [List.getElem?_map, ha]; rfl
      simp (maxSteps := 10000000) only [↓sx, sx, ↓ty, ↓reduceIte, Nat.reduceEqDiff, Nat.reduceBeqDiff, Nat.reduceAdd, Nat.reduceLeDiff, Nat.reduceLT, Nat.reduceMul, Nat.reduceSub, Int.reduceEq, Int.reduceBNe, Int.reduceBEq, ne_eq, not_false_eq_true, pc, ls, bs, and_true, true_and, and_self, Nat.reduceAdd, Nat.le_refl, leafP, e1, hd, hn]
      refine ⟨⟨by omega, hil⟩, ?_⟩
      refine CallT.mk (t := ⟨⟩) (rvalid_n a (by have := hs a hm; omega)) ?_
      cases hr : isRat a with
      | false =>
        have hk : achk L = 1 := by
          unfold achk
          rw [if_neg]
          intro h
          have := List.all_eq_true.1 h a hm
          rw [hr] at this; cases this
        rw [hk]
        simp (maxSteps := 10000000) only [↓sx, sx, ↓ty, ↓reduceIte, Nat.reduceEqDiff, Nat.reduceBeqDiff, Nat.reduceAdd, Nat.reduceLeDiff, Nat.reduceLT, Nat.reduceMul, Nat.reduceSub, Int.reduceEq, Int.reduceBNe, Int.reduceBEq, ne_eq, not_false_eq_true, pc, ls, bs, and_true, true_and, and_self, Nat.reduceAdd, Nat.le_refl, leafP]
      | true =>
        simp (maxSteps := 10000000) only [↓sx, sx, ↓ty, ↓reduceIte, Nat.reduceEqDiff, Nat.reduceBeqDiff, Nat.reduceAdd, Nat.reduceLeDiff, Nat.reduceLT, Nat.reduceMul, Nat.reduceSub, Int.reduceEq, Int.reduceBNe, Int.reduceBEq, ne_eq, not_false_eq_true, pc, ls, bs, and_true, true_and, and_self, Nat.reduceAdd, Nat.le_refl, leafP]
        refine NextK.mk (i + 1) (by omega) ⟨by omega, ?_⟩ ?_
        · intro y hy
          rw [take_snocA ha] at hy
          rcases List.mem_append.1 hy with hy | hy
          · exact hv y hy
          · rw [List.mem_singleton] at hy; rw [hy]; exact hr
        · simp (maxSteps := 10000000) only [isE_nil, is_cons, bo_p, bo_box, bo_orow, bo_rowp, any_cons', all_cons', all_nil', Bool.true_or, Bool.or_true, ↓sx, sx, ↓reduceIte, Nat.reduceEqDiff, Nat.reduceBeqDiff]
          rw [i64_id (by omega) (by omega)]
          exact ⟨rfl, rfl⟩
    · obtain rfl : i = L.length := by omega
      rw [List.take_length] at hv
      have e1 : decide ((L.length : Int) < (L.length : Int)) = false := decide_eq_false (by omega)
      simp (maxSteps := 10000000) only [↓sx, sx, ↓ty, ↓reduceIte, Nat.reduceEqDiff, Nat.reduceBeqDiff, Nat.reduceAdd, Nat.reduceLeDiff, Nat.reduceLT, Nat.reduceMul, Nat.reduceSub, Int.reduceEq, Int.reduceBNe, Int.reduceBEq, ne_eq, not_false_eq_true, pc, ls, bs, and_true, true_and, and_self, Nat.reduceAdd, Nat.le_refl, leafP, e1]
      refine loopK_of (fun i : Nat => [(0, .p (.sl L.length (texts L))), (2, .p (iP 0)), (17, .p (.sl L.length (texts L))), (18, .p (.val (.int .i64 (L.length : Nat)))), (19, .p (.val (.int .i64 (i : Nat))))]) (fun _ => []) (fun _ => []) (fun i => i ≤ L.length ∧ ∀ y ∈ L.take i, inU (ratOf y) = true) (fun i => L.length - i) 0 ⟨Nat.zero_le _, by simp⟩ ?_ ?_
      · simp (maxSteps := 10000000) only [isE_nil, is_cons, bo_p, bo_box, bo_orow, bo_rowp, any_cons', all_cons', all_nil', Bool.true_or, Bool.or_true, ↓sx, sx, ↓reduceIte, Nat.reduceEqDiff, Nat.reduceBeqDiff]
        try trivial
      · rintro i ⟨hi, hv2⟩
        by_cases hil : i < L.length
        · have e1 : decide ((i : Int) < (L.length : Int)) = true := decide_eq_true (by omega)
          obtain ⟨a, ha⟩ : ∃ a, L[i]? = some a := ⟨L[i], List.getElem?_eq_getElem hil⟩
          have hm : a ∈ L := List.mem_of_getElem? ha
          have hd : (texts L)[i]? = some (strP a) := by unfold texts; rw [List.getElem?_map, ha]; rfl
          have hr := hv a hm
          have W := ain_q (ratOf a) ((Sz.of hr (k := 399) (by have := hs a hm; omega)).mono (by omega))
          rw [rtP_of hr] at W
          simp (maxSteps := 10000000) only [↓sx, sx, ↓ty, ↓reduceIte, Nat.reduceEqDiff, Nat.reduceBeqDiff, Nat.reduceAdd, Nat.reduceLeDiff, Nat.reduceLT, Nat.reduceMul, Nat.reduceSub, Int.reduceEq, Int.reduceBNe, Int.reduceBEq, ne_eq, not_false_eq_true, pc, ls, bs, and_true, true_and, and_self, Nat.reduceAdd, Nat.le_refl, leafP, e1, hd, hn]
          refine ⟨⟨by omega, hil⟩, ?_⟩
          refine CallT.mk (t := ⟨⟩) W ?_
          cases hu : inU (ratOf a) with
          | false =>
            have hk : achk L = 2 := by
              unfold achk
              rw [if_pos (List.all_eq_true.2 hv), if_neg]
              intro h
              have := List.all_eq_true.1 h a hm
              rw [hu] at this; cases this
            rw [hk]
            simp (maxSteps := 10000000) only [↓sx, sx, ↓ty, ↓reduceIte, Nat.reduceEqDiff, Nat.reduceBeqDiff, Nat.reduceAdd, Nat.reduceLeDiff, Nat.reduceLT, Nat.reduceMul, Nat.reduceSub, Int.reduceEq, Int.reduceBNe, Int.reduceBEq, ne_eq, not_false_eq_true, pc, ls, bs, and_true, true_and, and_self, Nat.reduceAdd, Nat.le_refl, leafP]
          | true =>
            simp (maxSteps := 10000000) only [↓sx, sx, ↓ty, ↓reduceIte, Nat.reduceEqDiff, Nat.reduceBeqDiff, Nat.reduceAdd, Nat.reduceLeDiff, Nat.reduceLT, Nat.reduceMul, Nat.reduceSub, Int.reduceEq, Int.reduceBNe, Int.reduceBEq, ne_eq, not_false_eq_true, pc, ls, bs, and_true, true_and, and_self, Nat.reduceAdd, Nat.le_refl, leafP]
            refine NextK.mk (i + 1) (by omega) ⟨by omega, ?_⟩ ?_
            · intro y hy
              rw [take_snocA ha] at hy
              rcases List.mem_append.1 hy with hy | hy
              · exact hv2 y hy
              · rw [List.mem_singleton] at hy; rw [hy]; exact hu
            · simp (maxSteps := 10000000) only [isE_nil, is_cons, bo_p, bo_box, bo_orow, bo_rowp, any_cons', all_cons', all_nil', Bool.true_or, Bool.or_true, ↓sx, sx, ↓reduceIte, Nat.reduceEqDiff, Nat.reduceBeqDiff]
              rw [i64_id (by omega) (by omega)]
              exact ⟨rfl, rfl⟩
        · obtain rfl : i = L.length := by omega
          rw [List.take_length] at hv2
          have e1 : decide ((L.length : Int) < (L.length : Int)) = false := decide_eq_false (by omega)
          have hk : achk L = 0 := by
            unfold achk
            rw [if_pos (List.all_eq_true.2 hv), if_pos (List.all_eq_true.2 hv2)]
          rw [hk]
          simp (maxSteps := 10000000) only [↓sx, sx, ↓ty, ↓reduceIte, Nat.reduceEqDiff, Nat.reduceBeqDiff, Nat.reduceAdd, Nat.reduceLeDiff, Nat.reduceLT, Nat.reduceMul, Nat.reduceSub, Int.reduceEq, Int.reduceBNe, Int.reduceBEq, ne_eq, not_false_eq_true, pc, ls, bs, and_true, true_and, and_self, Nat.reduceAdd, Nat.le_refl, leafP, e1]
set_option maxRecDepth 100000 in
theorem acos_n (l : List UInt8) (hl : l.length < 800) : Meets Tryz.prog Gd 25 [strP l] (acosP l) := by
  refine meets_of_vc (Y := {}) (N := 20) (rs := [.tmp 2, .tmp 3]) mix tk gd Tryz.func25 rfl (by kernel_rfl) rfl rfl (by simp) (by kernel_rfl) ?_
  have C := acheck_n [l] (by simp) (by simp; omega)
  unfold acosP
  simp (maxSteps := 10000000) only [↓sx, sx, ↓ty, ↓reduceIte, Nat.reduceEqDiff, Nat.reduceBeqDiff, Nat.reduceAdd, Nat.reduceLeDiff, Nat.reduceLT, Nat.reduceMul, Nat.reduceSub, Int.reduceEq, Int.reduceBNe, Int.reduceBEq, ne_eq, not_false_eq_true, pc, ls, bs, and_true, true_and, and_self, Nat.reduceAdd, Nat.le_refl, leafP]
  refine CallT.mk (t := ⟨⟩) C ?_
  by_cases h : achk [l] = 0
  · obtain ⟨hr, hu⟩ := achk_ok h l (by simp)
    have zx : Sz 100 (ratOf l) := (Sz.of hr (k := 99) (by omega)).mono (by omega)
    rw [if_pos h, h]
    rw [← rtP_of hr]
    unfold cosQ
    generalize ratOf l = x at *
    have zm := zx.mul zx
    have z1 := Sz1 200 (by omega)
    have M := amul_q x x (zx.mono (by omega)) (zx.mono (by omega))
    have S := asub_q 1 (x * x) (Sz1 _ (by omega)) (zm.mono (by omega))
    have A := aadd_q 1 (x * x) (Sz1 _ (by omega)) (zm.mono (by omega))
    have D := adiv_q (1 - x * x) (1 + x * x) ((z1.sub zm).mono (by omega)) ((z1.add zm).mono (by omega)) (one_sq x)
    rw [show rtP 1 = strP [49] from rtP_1] at S A
    simp (maxSteps := 10000000) only [↓sx, sx, ↓ty, ↓reduceIte, Nat.reduceEqDiff, Nat.reduceBeqDiff, Nat.reduceAdd, Nat.reduceLeDiff, Nat.reduceLT, Nat.reduceMul, Nat.reduceSub, Int.reduceEq, Int.reduceBNe, Int.reduceBEq, ne_eq, not_false_eq_true, pc, ls, bs, and_true, true_and, and_self, Nat.reduceAdd, Nat.le_refl, leafP]
    refine CallT.mk (t := ⟨⟩) M ?_
    simp (maxSteps := 10000000) only [↓sx, sx, ↓ty, ↓reduceIte, Nat.reduceEqDiff, Nat.reduceBeqDiff, Nat.reduceAdd, Nat.reduceLeDiff, Nat.reduceLT, Nat.reduceMul, Nat.reduceSub, Int.reduceEq, Int.reduceBNe, Int.reduceBEq, ne_eq, not_false_eq_true, pc, ls, bs, and_true, true_and, and_self, Nat.reduceAdd, Nat.le_refl, leafP]
    refine CallT.mk (t := ⟨⟩) S ?_
    simp (maxSteps := 10000000) only [↓sx, sx, ↓ty, ↓reduceIte, Nat.reduceEqDiff, Nat.reduceBeqDiff, Nat.reduceAdd, Nat.reduceLeDiff, Nat.reduceLT, Nat.reduceMul, Nat.reduceSub, Int.reduceEq, Int.reduceBNe, Int.reduceBEq, ne_eq, not_false_eq_true, pc, ls, bs, and_true, true_and, and_self, Nat.reduceAdd, Nat.le_refl, leafP]
    refine CallT.mk (t := ⟨⟩) A ?_
    simp (maxSteps := 10000000) only [↓sx, sx, ↓ty, ↓reduceIte, Nat.reduceEqDiff, Nat.reduceBeqDiff, Nat.reduceAdd, Nat.reduceLeDiff, Nat.reduceLT, Nat.reduceMul, Nat.reduceSub, Int.reduceEq, Int.reduceBNe, Int.reduceBEq, ne_eq, not_false_eq_true, pc, ls, bs, and_true, true_and, and_self, Nat.reduceAdd, Nat.le_refl, leafP]
    refine CallT.mk (t := ⟨⟩) D ?_
    simp (maxSteps := 10000000) only [↓sx, sx, ↓ty, ↓reduceIte, Nat.reduceEqDiff, Nat.reduceBeqDiff, Nat.reduceAdd, Nat.reduceLeDiff, Nat.reduceLT, Nat.reduceMul, Nat.reduceSub, Int.reduceEq, Int.reduceBNe, Int.reduceBEq, ne_eq, not_false_eq_true, pc, ls, bs, and_true, true_and, and_self, Nat.reduceAdd, Nat.le_refl, leafP]
  · have d0 : (achk [l] != 0) = true := by simp [h]
    rw [if_neg h]
    simp (maxSteps := 10000000) only [↓sx, sx, ↓ty, ↓reduceIte, Nat.reduceEqDiff, Nat.reduceBeqDiff, Nat.reduceAdd, Nat.reduceLeDiff, Nat.reduceLT, Nat.reduceMul, Nat.reduceSub, Int.reduceEq, Int.reduceBNe, Int.reduceBEq, ne_eq, not_false_eq_true, pc, ls, bs, and_true, true_and, and_self, Nat.reduceAdd, Nat.le_refl, leafP, d0]
set_option maxRecDepth 100000 in
theorem asin_n (l : List UInt8) (hl : l.length < 800) : Meets Tryz.prog Gd 27 [strP l] (asinP l) := by
  refine meets_of_vc (Y := {}) (N := 18) (rs := [.tmp 2, .tmp 3]) mix tk gd Tryz.func27 rfl (by kernel_rfl) rfl rfl (by simp) (by kernel_rfl) ?_
  have C := acheck_n [l] (by simp) (by simp; omega)
  unfold asinP
  simp (maxSteps := 10000000) only [↓sx, sx, ↓ty, ↓reduceIte, Nat.reduceEqDiff, Nat.reduceBeqDiff, Nat.reduceAdd, Nat.reduceLeDiff, Nat.reduceLT, Nat.reduceMul, Nat.reduceSub, Int.reduceEq, Int.reduceBNe, Int.reduceBEq, ne_eq, not_false_eq_true, pc, ls, bs, and_true, true_and, and_self, Nat.reduceAdd, Nat.le_refl, leafP]
  refine CallT.mk (t := ⟨⟩) C ?_
  by_cases h : achk [l] = 0
  · obtain ⟨hr, hu⟩ := achk_ok h l (by simp)
    have zx : Sz 100 (ratOf l) := (Sz.of hr (k := 99) (by omega)).mono (by omega)
    rw [if_pos h, h]
    rw [← rtP_of hr]
    unfold sinQ
    generalize ratOf l = x at *
    have zm := zx.mul zx
    have z1 := Sz1 200 (by omega)
    have z2 : Sz 100 (2 : Rat) := Sz.int (z := 2) (Nat.le_trans (Lw_le (k := 1) (by decide)) (by omega)) (by omega)
    have r2 : rtP 2 = strP [50] := by
      have := siP_rt 2
      rw [show ((2 : Int) : Rat) = 2 from rfl] at this
      rw [← this]
      unfold siP iD
      rw [if_neg (by decide), show (2 : Int).natAbs = 2 from rfl, Lib.decDigits]
      rfl
    have M2 := amul_q 2 x (z2.mono (by omega)) (zx.mono (by omega))
    rw [r2] at M2
    have M := amul_q x x (zx.mono (by omega)) (zx.mono (by omega))
    have A := aadd_q 1 (x * x) (Sz1 _ (by omega)) (zm.mono (by omega))
    have D := adiv_q (2 * x) (1 + x * x) ((z2.mul zx).mono (by omega)) ((z1.add zm).mono (by omega)) (one_sq x)
    rw [show rtP 1 = strP [49] from rtP_1] at A
    simp (maxSteps := 10000000) only [↓sx, sx, ↓ty, ↓reduceIte, Nat.reduceEqDiff, Nat.reduceBeqDiff, Nat.reduceAdd, Nat.reduceLeDiff, Nat.reduceLT, Nat.reduceMul, Nat.reduceSub, Int.reduceEq, Int.reduceBNe, Int.reduceBEq, ne_eq, not_false_eq_true, pc, ls, bs, and_true, true_and, and_self, Nat.reduceAdd, Nat.le_refl, leafP]
    refine CallT.mk (t := ⟨⟩) M2 ?_
    simp (maxSteps := 10000000) only [↓sx, sx, ↓ty, ↓reduceIte, Nat.reduceEqDiff, Nat.reduceBeqDiff, Nat.reduceAdd, Nat.reduceLeDiff, Nat.reduceLT, Nat.reduceMul, Nat.reduceSub, Int.reduceEq, Int.reduceBNe, Int.reduceBEq, ne_eq, not_false_eq_true, pc, ls, bs, and_true, true_and, and_self, Nat.reduceAdd, Nat.le_refl, leafP]
    refine CallT.mk (t := ⟨⟩) M ?_
    simp (maxSteps := 10000000) only [↓sx, sx, ↓ty, ↓reduceIte, Nat.reduceEqDiff, Nat.reduceBeqDiff, Nat.reduceAdd, Nat.reduceLeDiff, Nat.reduceLT, Nat.reduceMul, Nat.reduceSub, Int.reduceEq, Int.reduceBNe, Int.reduceBEq, ne_eq, not_false_eq_true, pc, ls, bs, and_true, true_and, and_self, Nat.reduceAdd, Nat.le_refl, leafP]
    refine CallT.mk (t := ⟨⟩) A ?_
    simp (maxSteps := 10000000) only [↓sx, sx, ↓ty, ↓reduceIte, Nat.reduceEqDiff, Nat.reduceBeqDiff, Nat.reduceAdd, Nat.reduceLeDiff, Nat.reduceLT, Nat.reduceMul, Nat.reduceSub, Int.reduceEq, Int.reduceBNe, Int.reduceBEq, ne_eq, not_false_eq_true, pc, ls, bs, and_true, true_and, and_self, Nat.reduceAdd, Nat.le_refl, leafP]
    refine CallT.mk (t := ⟨⟩) D ?_
    simp (maxSteps := 10000000) only [↓sx, sx, ↓ty, ↓reduceIte, Nat.reduceEqDiff, Nat.reduceBeqDiff, Nat.reduceAdd, Nat.reduceLeDiff, Nat.reduceLT, Nat.reduceMul, Nat.reduceSub, Int.reduceEq, Int.reduceBNe, Int.reduceBEq, ne_eq, not_false_eq_true, pc, ls, bs, and_true, true_and, and_self, Nat.reduceAdd, Nat.le_refl, leafP]
  · have d0 : (achk [l] != 0) = true := by simp [h]
    rw [if_neg h]
    simp (maxSteps := 10000000) only [↓sx, sx, ↓ty, ↓reduceIte, Nat.reduceEqDiff, Nat.reduceBeqDiff, Nat.reduceAdd, Nat.reduceLeDiff, Nat.reduceLT, Nat.reduceMul, Nat.reduceSub, Int.reduceEq, Int.reduceBNe, Int.reduceBEq, ne_eq, not_false_eq_true, pc, ls, bs, and_true, true_and, and_self, Nat.reduceAdd, Nat.le_refl, leafP, d0]
set_option maxRecDepth 100000 in
theorem asum_n (a b : List UInt8) (ha : a.length < 400) (hb : b.length < 400) : Meets Tryz.prog Gd 29 [strP a, strP b] (asumP a b) := by
  refine meets_of_vc (Y := {}) (N := 31) (rs := [.tmp 4, .tmp 5]) mix tk gd Tryz.func29 rfl (by kernel_rfl) rfl rfl (by simp) (by kernel_rfl) ?_
  have C := acheck_n [a, b] (by simp) (by simp; omega)
  unfold asumP
  simp (maxSteps := 10000000) only [↓sx, sx, ↓ty, ↓reduceIte, Nat.reduceEqDiff, Nat.reduceBeqDiff, Nat.reduceAdd, Nat.reduceLeDiff, Nat.reduceLT, Nat.reduceMul, Nat.reduceSub, Int.reduceEq, Int.reduceBNe, Int.reduceBEq, ne_eq, not_false_eq_true, pc, ls, bs, and_true, true_and, and_self, Nat.reduceAdd, Nat.le_refl, leafP]
  refine CallT.mk (t := ⟨⟩) C ?_
  by_cases h : achk [a, b] = 0
  · obtain ⟨hr, hu⟩ := achk_ok h a (by simp)
    obtain ⟨hr2, hu2⟩ := achk_ok h b (by simp)
    have zx : Sz 46 (ratOf a) := (Sz.of hr (k := 45) (by omega)).mono (by omega)
    have zy : Sz 46 (ratOf b) := (Sz.of hr2 (k := 45) (by omega)).mono (by omega)
    rw [if_pos h, h]
    rw [← rtP_of hr, ← rtP_of hr2]
    generalize ratOf a = x at *
    generalize ratOf b = y at *
    have zm := zx.mul zy
    have z1 := Sz1 92 (by omega)
    have zd := z1.sub zm
    have M := amul_q x y (zx.mono (by omega)) (zy.mono (by omega))
    have S := asub_q 1 (x * y) (Sz1 _ (by omega)) (zm.mono (by omega))
    rw [show rtP 1 = strP [49] from rtP_1] at S
    have A := aadd_q x y (zx.mono (by omega)) (zy.mono (by omega))
    have za := zx.add zy
    have k0 := rT_zero6 (1 - x * y)
    simp (maxSteps := 10000000) only [↓sx, sx, ↓ty, ↓reduceIte, Nat.reduceEqDiff, Nat.reduceBeqDiff, Nat.reduceAdd, Nat.reduceLeDiff, Nat.reduceLT, Nat.reduceMul, Nat.reduceSub, Int.reduceEq, Int.reduceBNe, Int.reduceBEq, ne_eq, not_false_eq_true, pc, ls, bs, and_true, true_and, and_self, Nat.reduceAdd, Nat.le_refl, leafP]
    refine CallT.mk (t := ⟨⟩) M ?_
    simp (maxSteps := 10000000) only [↓sx, sx, ↓ty, ↓reduceIte, Nat.reduceEqDiff, Nat.reduceBeqDiff, Nat.reduceAdd, Nat.reduceLeDiff, Nat.reduceLT, Nat.reduceMul, Nat.reduceSub, Int.reduceEq, Int.reduceBNe, Int.reduceBEq, ne_eq, not_false_eq_true, pc, ls, bs, and_true, true_and, and_self, Nat.reduceAdd, Nat.le_refl, leafP]
    refine CallT.mk (t := ⟨⟩) S ?_
    by_cases hd : 1 - x * y = 0
    · have k1 := k0.trans (decide_eq_true hd)
      rw [if_pos hd]
      simp (maxSteps := 10000000) only [↓sx, sx, ↓ty, ↓reduceIte, Nat.reduceEqDiff, Nat.reduceBeqDiff, Nat.reduceAdd, Nat.reduceLeDiff, Nat.reduceLT, Nat.reduceMul, Nat.reduceSub, Int.reduceEq, Int.reduceBNe, Int.reduceBEq, ne_eq, not_false_eq_true, pc, ls, bs, and_true, true_and, and_self, Nat.reduceAdd, Nat.le_refl, leafP, ba_beq, k1]
    · have k1 := k0.trans (decide_eq_false hd)
      rw [if_neg hd]
      have D := adiv_q (x + y) (1 - x * y) (za.mono (by omega)) (zd.mono (by omega)) hd
      have zq := ((za.mono (m := 185) (by omega)).div (zd.mono (m := 185) (by omega)) (by omega)).mono (m := 400) (by omega)
      have W := ain_q ((x + y) / (1 - x * y)) zq
      simp (maxSteps := 10000000) only [↓sx, sx, ↓ty, ↓reduceIte, Nat.reduceEqDiff, Nat.reduceBeqDiff, Nat.reduceAdd, Nat.reduceLeDiff, Nat.reduceLT, Nat.reduceMul, Nat.reduceSub, Int.reduceEq, Int.reduceBNe, Int.reduceBEq, ne_eq, not_false_eq_true, pc, ls, bs, and_true, true_and, and_self, Nat.reduceAdd, Nat.le_refl, leafP, ba_beq, k1]
      refine CallT.mk (t := ⟨⟩) A ?_
      simp (maxSteps := 10000000) only [↓sx, sx, ↓ty, ↓reduceIte, Nat.reduceEqDiff, Nat.reduceBeqDiff, Nat.reduceAdd, Nat.reduceLeDiff, Nat.reduceLT, Nat.reduceMul, Nat.reduceSub, Int.reduceEq, Int.reduceBNe, Int.reduceBEq, ne_eq, not_false_eq_true, pc, ls, bs, and_true, true_and, and_self, Nat.reduceAdd, Nat.le_refl, leafP]
      refine CallT.mk (t := ⟨⟩) D ?_
      simp (maxSteps := 10000000) only [↓sx, sx, ↓ty, ↓reduceIte, Nat.reduceEqDiff, Nat.reduceBeqDiff, Nat.reduceAdd, Nat.reduceLeDiff, Nat.reduceLT, Nat.reduceMul, Nat.reduceSub, Int.reduceEq, Int.reduceBNe, Int.reduceBEq, ne_eq, not_false_eq_true, pc, ls, bs, and_true, true_and, and_self, Nat.reduceAdd, Nat.le_refl, leafP]
      refine CallT.mk (t := ⟨⟩) W ?_
      cases hw : inU ((x + y) / (1 - x * y)) with
      | true => simp (maxSteps := 10000000) only [↓sx, sx, ↓ty, ↓reduceIte, Nat.reduceEqDiff, Nat.reduceBeqDiff, Nat.reduceAdd, Nat.reduceLeDiff, Nat.reduceLT, Nat.reduceMul, Nat.reduceSub, Int.reduceEq, Int.reduceBNe, Int.reduceBEq, ne_eq, not_false_eq_true, pc, ls, bs, and_true, true_and, and_self, Nat.reduceAdd, Nat.le_refl, leafP]
      | false => simp (maxSteps := 10000000) only [↓sx, sx, ↓ty, ↓reduceIte, Nat.reduceEqDiff, Nat.reduceBeqDiff, Nat.reduceAdd, Nat.reduceLeDiff, Nat.reduceLT, Nat.reduceMul, Nat.reduceSub, Int.reduceEq, Int.reduceBNe, Int.reduceBEq, ne_eq, not_false_eq_true, pc, ls, bs, and_true, true_and, and_self, Nat.reduceAdd, Nat.le_refl, leafP]
  · have d0 : (achk [a, b] != 0) = true := by simp [h]
    rw [if_neg h]
    simp (maxSteps := 10000000) only [↓sx, sx, ↓ty, ↓reduceIte, Nat.reduceEqDiff, Nat.reduceBeqDiff, Nat.reduceAdd, Nat.reduceLeDiff, Nat.reduceLT, Nat.reduceMul, Nat.reduceSub, Int.reduceEq, Int.reduceBNe, Int.reduceBEq, ne_eq, not_false_eq_true, pc, ls, bs, and_true, true_and, and_self, Nat.reduceAdd, Nat.le_refl, leafP, d0]
end Go.Proofs.YtolehnkoocnenaaGreatDoor.S
namespace Gb
open Go Go.RowKit Go.Sx
abbrev sQ (y : Rat) : Value := .string ⟨(rT y).toArray⟩
def xk (x : Rat) : Nat → Rat
  | 0 => x
  | k + 1 => xk x k * (0 - x * x)
def od (k : Nat) : Int := 2 * (k : Int) + 1
def tm (x : Rat) (k : Nat) : Rat := xk x k / ((od k : Int) : Rat)
def psum (x : Rat) : Nat → Rat
  | 0 => 0
  | k + 1 => psum x k + tm x k
theorem Sz.neg1 {k : Nat} {y : Rat} (hx : Sz k 0) (hy : Sz k y) : Sz k (0 - y) := by
  have := hy.neg
  rwa [show -y = 0 - y by grind] at this
theorem od_sz (k : Nat) (hk : k < 100) : Sz 1 ((od k : Int) : Rat) := Sz.int (Nat.le_trans (Lw_le (k := 1) (by unfold od; omega)) (by omega)) (by omega)
theorem od_ne (k : Nat) : ((od k : Int) : Rat) ≠ 0 := by
  intro h
  have : (od k : Rat) = ((0 : Int) : Rat) := h
  have := Rat.intCast_inj.1 this
  unfold od at this; omega
end Gb
namespace Go.Proofs.YtolehnkoocnenaaGreatDoor.S
open Go Go.Sx Go.RowKit Gb Go.Shelf
attribute [local go_sem] Oper.semAt_some
theorem sQ_0 : sQ 0 = .string ⟨#[48]⟩ := by show Value.string ⟨(rT 0).toArray⟩ = _; rw [rT_0]
theorem cell_hp {W : World} {b : Nat} {v : Value} {t : TypeId} {fz : Nat × Nat} (h : W.heap[b]? = some (.cells #[v] t fz)) : W.cell? ⟨b, 0, none⟩ = some v := by
  simp [World.cell?, h]
theorem cell_fz {W : World} {b : Nat} {v : Value} {t : TypeId} (h : W.heap[b]? = some (.cells #[v] t (0, 0))) : W.frozen? ⟨b, 0, none⟩ = false := by
  simp [World.frozen?, h]
theorem call1 {f : FuncId} {n : Int} {c : Rat} (h : Meets Tryz.prog Gd f [iP n] (rtP c)) (W : World) (hG : Gd W) : Calls Tryz.prog f #[.int .i64 n] W fun e W' => e = .returned (sQ c) ∧ Below W.heap.size W W' :=
  (h.calls (fun _ => False) [.int .i64 n] W (fun _ hb => hb.elim) (by simp [RepL, RepP, iP]) hG).mono fun e W' ⟨v, he, hv, hb⟩ => ⟨by rw [he]; simp only [rtP, strP, RepP] at hv; rw [hv], hb⟩
theorem call2 {f : FuncId} {a b c : Rat} (h : Meets Tryz.prog Gd f [rtP a, rtP b] (rtP c)) (W : World) (hG : Gd W) : Calls Tryz.prog f #[sQ a, sQ b] W fun e W' => e = .returned (sQ c) ∧ Below W.heap.size W W' :=
  (h.calls (fun _ => False) [sQ a, sQ b] W (fun _ hb => hb.elim) (by simp [RepL, RepP, rtP, strP, sQ]) hG).mono fun e W' ⟨v, he, hv, hb⟩ => ⟨by rw [he]; simp only [rtP, strP, RepP] at hv; rw [hv], hb⟩
set_option maxRecDepth 100000 in
set_option maxHeartbeats 4000000 in
theorem terms1_in (l X : Nat) (x : Rat) (M : Nat) (hM : M ≤ 90) (hz : ∀ k, k ≤ M → Sz 1900 (xk x k)) (A B : Nat → World → Prop) (Fin : World → Prop)
    (hA : ∀ k W, A k W → k < M ∧ W.heap[X]? = some (.cells #[sQ (xk x k)] 22 (0, 0)) ∧ Gd W) (hAg : ∀ k W W', A k W → Below W.heap.size W W' → A k W')
    (hB : ∀ k W, B k W → W.heap[X]? = some (.cells #[sQ (xk x k)] 22 (0, 0)) ∧ Gd W) (hBg : ∀ k W W', B k W → Below W.heap.size W W' → B k W')
    (hS : ∀ k W, B k W → A (k + 1) (W.setCell ⟨X, 0, none⟩ (sQ (xk x (k + 1)))))
    (hY : ∀ k W, A k W → YieldAt Fence.wide 2 Tryz.prog l #[sQ (tm x k)] W fun e W' => (e = .returned (.bool true) ∧ B k W') ∨ (e = .returned (.bool false) ∧ Fin W'))
    (W : World) (h0 : A 0 W) :
    CallsIn Fence.wide 3 Tryz.prog 148 #[.func (.yield l) #[] #[], .pointer (some ⟨X, 0, none⟩)] W fun e W' => (∃ v, e = .returned v) ∧ Fin W' := by
  refine callsIn_of_wp Tryz.func148 rfl trivial ?_ rfl
  simp only [Tryz.ntmps148, List.size_toArray, List.length_cons, List.length_nil, Nat.reduceAdd, Nat.reduceSub, Array.replicate_succ, Array.replicate_zero, List.push_toArray, List.append_toArray, List.nil_append, List.cons_append]
  obtain ⟨hM0, hX, hG⟩ := hA 0 W h0
  have hXc := cell_hp hX
  have zx : Sz 1900 x := hz 0 (by omega)
  have zxx := zx.mul zx
  rw [show xk x 0 = x from rfl] at hXc
  gi_wp2
  refine ⟨trivial, ?_⟩
  refine (callsIn_wide.2 (call2 (amul_q x x (zx.mono (by omega)) (zx.mono (by omega))) W hG)).mono ?_
  rintro e W1 ⟨rfl, hB1⟩
  have C2 := call2 (asub_q 0 (x * x) (Sz0 _ (by omega)) (zxx.mono (by omega))) W1 (gd _ _ hG hB1)
  rw [sQ_0] at C2
  gi_wp2
  refine ⟨trivial, ?_⟩
  refine (callsIn_wide.2 C2).mono ?_
  rintro e W2 ⟨rfl, hB2⟩
  have hA2 := hAg 0 W W2 h0 (hB1.trans (hB2.mono hB1.size))
  gi_wp2
  gi_loopw [4] (fun i wr => ∃ k : Nat, i = .int .i64 (od k) ∧ A k wr) (fun i _ => 2 * M + 2 - (RowKit.intOf i).toNat)
  case atStart => exact ⟨0, by simp [od], hA2⟩
  case round =>
    obtain ⟨k, rfl, hAk⟩ := hrel
    obtain ⟨hkM, hXk, hGk⟩ := hA k wr hAk
    have hXkc := cell_hp hXk
    gi_wp2
    refine wpIn_region_any (by kernel_rfl) ?_
    change wpAnyIn _ _ _ _ _ _ _ _ _ (World.drew _)
    refine wpAnyIn_take (i := 0) (v := .func (.yield l) #[] #[]) rfl rfl (by kernel_rfl) (by kernel_rfl) (by kernel_rfl) (fun _ _ _ h => h) ⟨Or.inl ⟨by rfl, ?_⟩, fun _ => rfl⟩ ?_
    · intro w; go_simp
    refine wpAnyIn_take (i := 2) (v := .int .i64 (od k)) rfl rfl (by kernel_rfl) (by kernel_rfl) (by kernel_rfl) (fun _ _ _ h => h) ⟨Or.inl ⟨by rfl, ?_⟩, fun _ => rfl⟩ ?_
    · intro w; go_simp
    refine wpAnyIn_ready (rs := [1, 3]) (by kernel_rfl) (by simp) ?_
    refine AllReadyIn.cons rfl (fun K hK => ?_) (AllReadyIn.cons rfl (fun K hK => ?_) AllReadyIn.nil)
    · go_simp
      refine hK _ _ ?_
      clear hK K
      refine wpAnyIn_ready (rs := [3]) (by kernel_rfl) (by simp) ?_
      refine AllReadyIn.cons rfl (fun K hK => ?_) AllReadyIn.nil
      go_simp
      refine ⟨trivial, ?_⟩
      refine (callsIn_wide.2 (call1 (awhole_n (od k) (by unfold od; omega) (by unfold od; omega)) wr.drew (gd _ _ hGk (Below.refl _ _).drew))).mono ?_
      rintro e W4 ⟨rfl, hB4⟩
      have hB4' : Below wr.heap.size wr W4 := ((Below.refl _ _).drew).trans hB4
      have hA4 := hAg k wr W4 hAk hB4'
      have hG4 := gd _ _ hGk hB4'
      refine hK _ _ ?_
      clear hK K
      refine wpAnyIn_ready (rs := [4]) (by kernel_rfl) (by simp) ?_
      refine AllReadyIn.cons rfl (fun K hK => ?_) AllReadyIn.nil
      go_simp
      refine ⟨trivial, ?_⟩
      refine (callsIn_wide.2 (call2 (adiv_q (xk x k) (od k : Rat) ((hz k (by omega)).mono (by omega)) ((od_sz k (by omega)).mono (by omega)) (od_ne k)) W4 hG4)).mono ?_
      rintro e W5 ⟨rfl, hB5⟩
      refine hK _ _ ?_
      clear hK K
      refine wpAnyIn_ready (rs := [5]) (by kernel_rfl) (by simp) ?_
      refine AllReadyIn.cons rfl (fun K hK => ?_) AllReadyIn.nil
      obtain ⟨fn, tmps, assign, body, hy, hR⟩ := hY k W5 (hAg k W4 W5 hA4 hB5)
      rw [show xk x k / (od k : Rat) = tm x k from rfl]
      go_simp
      refine hR.mono ?_
      rintro e W6 (⟨rfl, hB6⟩ | ⟨rfl, hF6⟩)
      · refine hK _ _ ?_
        clear hK K
        refine wpAnyIn_done (by kernel_rfl) ?_ _
        obtain ⟨hX6, hG6⟩ := hB k W6 hB6
        have hX6c := cell_hp hX6
        gi_wp2
        refine ⟨trivial, ?_⟩
        refine (callsIn_wide.2 (call2 (amul_q (xk x k) (0 - x * x) ((hz k (by omega)).mono (by omega)) ((Sz.neg1 (Sz0 _ (by omega)) zxx).mono (by omega))) W6 hG6)).mono ?_
        rintro e W7 ⟨rfl, hB7⟩
        have hB7' := hBg k W6 W7 hB6 hB7
        have hX7c := cell_hp (hB k W7 hB7').1
        have hX7f := cell_fz (hB k W7 hB7').1
        have hw : wrap64 (od k + 2) = od (k + 1) := by unfold wrap64 od; omega
        gi_wp2
        go_roundw
        case rel => exact ⟨k + 1, by rw [hw], hS k W7 hB7'⟩
        case measure => rw [hw]; simp only [RowKit.intOf, od]; omega
      · refine hK _ _ ?_
        clear hK K
        refine wpAnyIn_done (by kernel_rfl) ?_ _
        gi_wp2
        go_end0
        exact ⟨⟨_, rfl⟩, hF6⟩
    · go_simp
      refine ⟨trivial, ?_⟩
      refine (callsIn_wide.2 (call1 (awhole_n (od k) (by unfold od; omega) (by unfold od; omega)) wr.drew (gd _ _ hGk (Below.refl _ _).drew))).mono ?_
      rintro e W4 ⟨rfl, hB4⟩
      have hB4' : Below wr.heap.size wr W4 := ((Below.refl _ _).drew).trans hB4
      have hA4 := hAg k wr W4 hAk hB4'
      have hG4 := gd _ _ hGk hB4'
      refine hK _ _ ?_
      clear hK K
      have hX4c := cell_hp (hA k W4 hA4).2.1
      refine wpAnyIn_ready (rs := [1]) (by kernel_rfl) (by simp) ?_
      refine AllReadyIn.cons rfl (fun K hK => ?_) AllReadyIn.nil
      go_simp
      refine hK _ _ ?_
      clear hK K
      refine wpAnyIn_ready (rs := [4]) (by kernel_rfl) (by simp) ?_
      refine AllReadyIn.cons rfl (fun K hK => ?_) AllReadyIn.nil
      go_simp
      refine ⟨trivial, ?_⟩
      refine (callsIn_wide.2 (call2 (adiv_q (xk x k) (od k : Rat) ((hz k (by omega)).mono (by omega)) ((od_sz k (by omega)).mono (by omega)) (od_ne k)) W4 hG4)).mono ?_
      rintro e W5 ⟨rfl, hB5⟩
      refine hK _ _ ?_
      clear hK K
      refine wpAnyIn_ready (rs := [5]) (by kernel_rfl) (by simp) ?_
      refine AllReadyIn.cons rfl (fun K hK => ?_) AllReadyIn.nil
      obtain ⟨fn, tmps, assign, body, hy, hR⟩ := hY k W5 (hAg k W4 W5 hA4 hB5)
      rw [show xk x k / (od k : Rat) = tm x k from rfl]
      go_simp
      refine hR.mono ?_
      rintro e W6 (⟨rfl, hB6⟩ | ⟨rfl, hF6⟩)
      · refine hK _ _ ?_
        clear hK K
        refine wpAnyIn_done (by kernel_rfl) ?_ _
        obtain ⟨hX6, hG6⟩ := hB k W6 hB6
        have hX6c := cell_hp hX6
        gi_wp2
        refine ⟨trivial, ?_⟩
        refine (callsIn_wide.2 (call2 (amul_q (xk x k) (0 - x * x) ((hz k (by omega)).mono (by omega)) ((Sz.neg1 (Sz0 _ (by omega)) zxx).mono (by omega))) W6 hG6)).mono ?_
        rintro e W7 ⟨rfl, hB7⟩
        have hB7' := hBg k W6 W7 hB6 hB7
        have hX7c := cell_hp (hB k W7 hB7').1
        have hX7f := cell_fz (hB k W7 hB7').1
        have hw : wrap64 (od k + 2) = od (k + 1) := by unfold wrap64 od; omega
        gi_wp2
        go_roundw
        case rel => exact ⟨k + 1, by rw [hw], hS k W7 hB7'⟩
        case measure => rw [hw]; simp only [RowKit.intOf, od]; omega
      · refine hK _ _ ?_
        clear hK K
        refine wpAnyIn_done (by kernel_rfl) ?_ _
        gi_wp2
        go_end0
        exact ⟨⟨_, rfl⟩, hF6⟩
end Go.Proofs.YtolehnkoocnenaaGreatDoor.S
namespace Gb
open Go Go.RowKit
def recOf (fn : FuncId) (tmps : Array Value) (ps : Array Tmp) (assign body : Code) (D : Nat) (st : LoopState) (pe : Option Code) : Obj :=
  .loop { state := st, pending := pe, fn, tmps, params := ps, assign, body, defers := D }
theorem range_start {P : Program} {g : Operand} {ps : Array Tmp} {assign body : Code} {Q : Exit → Act → World → Prop} {a : Act} {w : World} {gf : Nat} {lb : Array Value} (m : Nat)
    (hg : a.eval g = .func (.func gf) #[] lb) (eg : ∀ args w, (callFunc gf args).run P w = .ok (.enter gf args) w)
    (h : ∀ fn : FuncId, CallsIn Fence.wide m P gf (#[.func (.yield (w.heap.size + 1)) #[] #[]] ++ lb) ((w.alloc (.deferred (some []))).alloc (recOf fn a.tmps ps assign body w.heap.size .ready none))
      (rangePost Fence.wide (m + 1) P (w.heap.size + 1) Q { a with defers := [{ target := .collected w.heap.size, args := #[] }] ++ a.defers })) :
    (Code.rangeFunc g ps assign body).wpIn Fence.wide (m + 1) P Q a w := by
  refine wpIn_rangeFunc ?_
  intro fn _
  obtain ⟨W1, hW1⟩ : ∃ W1, (w.alloc (.deferred (some []))).alloc (recOf fn a.tmps ps assign body w.heap.size .ready none) = W1 := ⟨_, rfl⟩
  refine ⟨w.heap.size + 1, [{ target := .collected w.heap.size, args := #[] }], W1, { target := .fn (.func gf) lb, args := #[.func (.yield (w.heap.size + 1)) #[] #[]] }, W1, gf,
    #[.func (.yield (w.heap.size + 1)) #[] #[]] ++ lb, W1, ?_, ?_, fun _ _ => trivial, ?_, fun _ => by omega, ?_⟩
  · rw [← hW1]; exact run_enterLoop_outer _ _ _ _ _
  · simp only [resolve, hg]
    simp [go_sem]
  · simp [invoke, go_sem, eg]
  · rw [← hW1]; exact h fn
theorem range_round {P : Program} {m L D fn : Nat} {tmps : Array Value} {ps : Array Tmp} {assign body : Code} {args : Array Value} {W : World} {R : Ending → World → Prop} (a₁ : Act)
    (hl : W.heap[L]? = some (recOf fn tmps ps assign body D .ready none)) (hs : args.size = ps.size)
    (hassign : ∀ K : Act → World → Prop, K a₁ W → assign.wpIn (Fence.wide.inRound L) m P (Exit.then K (fun _ _ _ => False)) { tmps := (ps.zip args).foldl (fun t (p, v) => t.setIfInBounds p v) tmps, defers := [] } W)
    (hbody : body.wpIn (Fence.wide.inRound L) m P (roundPost P L R) a₁ (W.putObj L (recOf fn tmps ps assign body D .busy none))) :
    YieldAt Fence.wide m P L args W R :=
  ⟨fn, _, assign, body, run_yield hl hs, roundIn_of_wpIn trivial (hassign _ ⟨_, run_beginRound hl rfl, hbody⟩)⟩
section
variable {P : Program} {L D fn : Nat} {tmps : Array Value} {ps : Array Tmp} {assign body : Code} {W : World}
theorem round_go {R : Ending → World → Prop} {a : Act} (hl : W.heap[L]? = some (recOf fn tmps ps assign body D .busy none))
    (h : R (.returned (.bool true)) (W.putObj L (recOf fn tmps ps assign body D .ready none))) : roundPost P L R .normal a W :=
  ⟨_, _, run_endRound none hl, h⟩
theorem round_exit {R : Ending → World → Prop} {a : Act} {id : Nat} (hl : W.heap[L]? = some (recOf fn tmps ps assign body D .busy none))
    (h : R (.returned (.bool false)) (W.putObj L (recOf fn tmps ps assign body D .done (some (.exit id))))) : roundPost P L R (.exit id) a W :=
  ⟨_, _, run_endRound (some (.exit id)) hl, h⟩
theorem range_jump {n : Nat} {Q : Exit → Act → World → Prop} {a : Act} {v : Value} {c : Code} (hl : W.heap[L]? = some (recOf fn tmps ps assign body D .done (some c)))
    (h : c.wpIn Fence.wide n P Q a (W.putObj L (recOf fn tmps ps assign body D .exhausted (some c)))) : rangePost Fence.wide n P L Q a (.returned v) W :=
  ⟨_, _, run_endLoop hl (by simp), h⟩
end
end Gb
namespace Gb
open Go Go.RowKit Go.Sx
def betQ (a b : Rat) : Rat × Rat := if b < a then (b, a) else (a, b)
def serQ (x : Rat) (n : Nat) : Rat × Rat := betQ (psum x n) (psum x (n + 1))
end Gb
namespace Go.Proofs.YtolehnkoocnenaaGreatDoor.S
open Go Go.Sx Go.RowKit Gb Go.Shelf
attribute [local go_sem] Oper.semAt_some
set_option maxRecDepth 100000 in
theorem abet_q (a b : Rat) (ha : Sz 4000 a) (hb : Sz 4000 b) : Meets Tryz.prog Gd 123 [rtP a, rtP b] (ivQ (betQ a b)) := by
  refine meets_of_vc (Y := {}) (N := 13) (rs := [.cell 4 25]) mix tk gd Tryz.func123 rfl (by kernel_rfl) rfl rfl (by simp) (by kernel_rfl) ?_
  unfold betQ
  simp (maxSteps := 10000000) only [↓sx, sx, ↓ty, ↓reduceIte, Nat.reduceEqDiff, Nat.reduceBeqDiff, Nat.reduceAdd, Nat.reduceLeDiff, Nat.reduceLT, Nat.reduceMul, Nat.reduceSub, Int.reduceEq, Int.reduceBNe, Int.reduceBEq, ne_eq, not_false_eq_true, pc, ls, bs, and_true, true_and, and_self, Nat.reduceAdd, Nat.le_refl, leafP]
  refine CallT.mk (t := ⟨⟩) (aless_q b a hb ha) ?_
  by_cases h : b < a
  · rw [if_pos h, decide_eq_true h]
    simp (maxSteps := 10000000) only [↓sx, sx, ↓ty, ↓reduceIte, Nat.reduceEqDiff, Nat.reduceBeqDiff, Nat.reduceAdd, Nat.reduceLeDiff, Nat.reduceLT, Nat.reduceMul, Nat.reduceSub, Int.reduceEq, Int.reduceBNe, Int.reduceBEq, ne_eq, not_false_eq_true, pc, ls, bs, and_true, true_and, and_self, Nat.reduceAdd, Nat.le_refl, leafP]
    rfl
  · rw [if_neg h, decide_eq_false h]
    simp (maxSteps := 10000000) only [↓sx, sx, ↓ty, ↓reduceIte, Nat.reduceEqDiff, Nat.reduceBeqDiff, Nat.reduceAdd, Nat.reduceLeDiff, Nat.reduceLT, Nat.reduceMul, Nat.reduceSub, Int.reduceEq, Int.reduceBNe, Int.reduceBEq, ne_eq, not_false_eq_true, pc, ls, bs, and_true, true_and, and_self, Nat.reduceAdd, Nat.le_refl, leafP]
    rfl
theorem call2v {f : FuncId} {a b : Rat} {p : Rat × Rat} (h : Meets Tryz.prog Gd f [rtP a, rtP b] (ivQ p)) (W : World) (hG : Gd W) : Calls Tryz.prog f #[sQ a, sQ b] W fun e W' => e = .returned (.agg #[sQ p.1, sQ p.2]) ∧ Below W.heap.size W W' :=
  (h.calls (fun _ => False) [sQ a, sQ b] W (fun _ hb => hb.elim) (by simp [RepL, RepP, rtP, strP, sQ]) hG).mono fun e W' ⟨v, he, hv, hb⟩ => ⟨by
    rw [he]
    rw [ivQ_iv] at hv
    simp only [ivP, strP, RepP, RepL] at hv
    obtain ⟨vs, rfl, x, xs, rfl, rfl, y, ys, rfl, rfl, rfl⟩ := hv
    rfl, hb⟩
theorem cell2_hp {W : World} {b : Nat} {u v : Value} {t : TypeId} (h : W.heap[b]? = some (.cells #[u, v] t (0, 0))) : W.cell? ⟨b, 0, none⟩ = some u ∧ W.cell? ⟨b, 1, none⟩ = some v ∧ W.frozen? ⟨b, 0, none⟩ = false ∧ W.frozen? ⟨b, 1, none⟩ = false := by
  simp [World.cell?, World.frozen?, h]
theorem set2c {W : World} {b : Nat} {u v u' v' : Value} {t : TypeId} (h : W.heap[b]? = some (.cells #[u, v] t (0, 0))) : ((W.setCell ⟨b, 0, none⟩ u').setCell ⟨b, 1, none⟩ v').heap[b]? = some (.cells #[u', v'] t (0, 0)) := by
  have h1 : (W.setCell ⟨b, 0, none⟩ u').heap[b]? = some (.cells #[u', v] t (0, 0)) := by
    obtain ⟨hlt, hk⟩ := Array.getElem?_eq_some_iff.1 h
    show (W.heap.modify b _)[b]? = _
    rw [Array.getElem?_eq_getElem (by rw [Array.size_modify]; exact hlt), Array.getElem_modify_self, hk]
    rfl
  generalize W.setCell ⟨b, 0, none⟩ u' = W1 at h1 ⊢
  obtain ⟨hlt, hk⟩ := Array.getElem?_eq_some_iff.1 h1
  show (W1.heap.modify b _)[b]? = _
  rw [Array.getElem?_eq_getElem (by rw [Array.size_modify]; exact hlt), Array.getElem_modify_self, hk]
  rfl
theorem hp_other {W : World} {b k : Nat} {o o' : Obj} (h : W.heap[b]? = some o') (hk : b ≠ k) : (W.putObj k o).heap[b]? = some o' := (World.putObj_heap_other hk).trans h
structure SW (w0 : World) (n : Int) (s l y : Rat) (m : Int) (st : Obj) (W : World) : Prop where
  below : Below w0.heap.size w0 W
  b0 : W.heap[w0.heap.size]? = some (.cells #[.int .i64 n] 3 (0, 0))
  b1 : W.heap[w0.heap.size + 1]? = some (.cells #[.string ⟨#[]⟩, .string ⟨#[]⟩] 25 (0, 0))
  b2 : W.heap[w0.heap.size + 2]? = some (.cells #[sQ s] 22 (0, 0))
  b3 : W.heap[w0.heap.size + 3]? = some (.cells #[sQ l] 22 (0, 0))
  b4 : W.heap[w0.heap.size + 4]? = some (.cells #[.int .i64 m] 3 (0, 0))
  b5 : W.heap[w0.heap.size + 5]? = some (.cells #[sQ y] 22 (0, 0))
  b6 : W.heap[w0.heap.size + 6]? = some (.deferred (some []))
  b7 : W.heap[w0.heap.size + 7]? = some st
theorem hp_keep {W W' : World} (h : Below W.heap.size W W') {k : Nat} {o : Obj} (hk : W.heap[k]? = some o) : W'.heap[k]? = some o :=
  (h.block k (Array.getElem?_eq_some_iff.1 hk).1).trans hk
theorem setC_same {W : World} {b : Nat} {u v : Value} {t : TypeId} (h : W.heap[b]? = some (.cells #[u] t (0, 0))) : (W.setCell ⟨b, 0, none⟩ v).heap[b]? = some (.cells #[v] t (0, 0)) := by
  obtain ⟨hlt, hk⟩ := Array.getElem?_eq_some_iff.1 h
  show (W.heap.modify b _)[b]? = _
  rw [Array.getElem?_eq_getElem (by rw [Array.size_modify]; exact hlt), Array.getElem_modify_self, hk]
  rfl
theorem setC_other {W : World} {b k : Nat} {v : Value} {o : Obj} (h : W.heap[k]? = some o) (hk : k ≠ b) : (W.setCell ⟨b, 0, none⟩ v).heap[k]? = some o :=
  (Below.heap_setCell W ⟨b, 0, none⟩ v k hk).trans h
section
variable {w0 : World} {n m : Int} {s l y : Rat} {st : Obj} {W : World}
theorem SW.grow (h : SW w0 n s l y m st W) {W' : World} (hB : Below W.heap.size W W') : SW w0 n s l y m st W' :=
  ⟨h.below.trans (hB.mono h.below.size), hp_keep hB h.b0, hp_keep hB h.b1, hp_keep hB h.b2, hp_keep hB h.b3, hp_keep hB h.b4, hp_keep hB h.b5, hp_keep hB h.b6, hp_keep hB h.b7⟩
theorem SW.set2 (h : SW w0 n s l y m st W) (s' : Rat) : SW w0 n s' l y m st (W.setCell ⟨w0.heap.size + 2, 0, none⟩ (sQ s')) :=
  ⟨h.below.setCell (Nat.le_add_right _ _) _, setC_other h.b0 (by omega), setC_other h.b1 (by omega), setC_same h.b2, setC_other h.b3 (by omega), setC_other h.b4 (by omega), setC_other h.b5 (by omega), setC_other h.b6 (by omega), setC_other h.b7 (by omega)⟩
theorem SW.set3 (h : SW w0 n s l y m st W) (s' : Rat) : SW w0 n s s' y m st (W.setCell ⟨w0.heap.size + 3, 0, none⟩ (sQ s')) :=
  ⟨h.below.setCell (Nat.le_add_right _ _) _, setC_other h.b0 (by omega), setC_other h.b1 (by omega), setC_other h.b2 (by omega), setC_same h.b3, setC_other h.b4 (by omega), setC_other h.b5 (by omega), setC_other h.b6 (by omega), setC_other h.b7 (by omega)⟩
theorem SW.set4 (h : SW w0 n s l y m st W) (s' : Int) : SW w0 n s l y s' st (W.setCell ⟨w0.heap.size + 4, 0, none⟩ (.int .i64 s')) :=
  ⟨h.below.setCell (Nat.le_add_right _ _) _, setC_other h.b0 (by omega), setC_other h.b1 (by omega), setC_other h.b2 (by omega), setC_other h.b3 (by omega), setC_same h.b4, setC_other h.b5 (by omega), setC_other h.b6 (by omega), setC_other h.b7 (by omega)⟩
theorem SW.set5 (h : SW w0 n s l y m st W) (s' : Rat) : SW w0 n s l s' m st (W.setCell ⟨w0.heap.size + 5, 0, none⟩ (sQ s')) :=
  ⟨h.below.setCell (Nat.le_add_right _ _) _, setC_other h.b0 (by omega), setC_other h.b1 (by omega), setC_other h.b2 (by omega), setC_other h.b3 (by omega), setC_other h.b4 (by omega), setC_same h.b5, setC_other h.b6 (by omega), setC_other h.b7 (by omega)⟩
theorem SW.put7 (h : SW w0 n s l y m st W) (st' : Obj) : SW w0 n s l y m st' (W.putObj (w0.heap.size + 7) st') := by
  have hlt := (Array.getElem?_eq_some_iff.1 h.b7).1
  have ho : ∀ {k : Nat} {o : Obj}, W.heap[k]? = some o → k ≠ w0.heap.size + 7 → (W.putObj (w0.heap.size + 7) st').heap[k]? = some o := fun hk hne => (World.putObj_heap_other hne).trans hk
  refine ⟨⟨h.below.os, h.below.tape, h.below.output, by simpa using h.below.size, fun k hk => (World.putObj_heap_other (by omega)).trans (h.below.block k hk)⟩, ho h.b0 (by omega), ho h.b1 (by omega), ho h.b2 (by omega), ho h.b3 (by omega), ho h.b4 (by omega), ho h.b5 (by omega), ho h.b6 (by omega), World.putObj_heap_same hlt⟩
theorem SW.round {P : Program} {n' D fn : Nat} {tmps : Array Value} {ps : Array Tmp} {assign body : Code} {args : Array Value} {R : Ending → World → Prop} (a₁ : Act) (h : SW w0 n s l y m (recOf fn tmps ps assign body D .ready none) W) (hs : args.size = ps.size)
    (hassign : ∀ K : Act → World → Prop, K a₁ W → assign.wpIn (Fence.wide.inRound (w0.heap.size + 7)) n' P (Exit.then K (fun _ _ _ => False)) { tmps := (ps.zip args).foldl (fun t (p, v) => t.setIfInBounds p v) tmps, defers := [] } W)
    (hbody : ∀ W1, SW w0 n s l y m (recOf fn tmps ps assign body D .busy none) W1 → body.wpIn (Fence.wide.inRound (w0.heap.size + 7)) n' P (roundPost P (w0.heap.size + 7) R) a₁ W1) :
    YieldAt Fence.wide n' P (w0.heap.size + 7) args W R := range_round a₁ h.b7 hs hassign (hbody _ (h.put7 _))
theorem SW.jump {P : Program} {n' D fn : Nat} {tmps : Array Value} {ps : Array Tmp} {assign body c : Code} {Q : Exit → Act → World → Prop} {a : Act} {v : Value} (h : SW w0 n s l y m (recOf fn tmps ps assign body D .done (some c)) W)
    (hn : ∀ W9 st, SW w0 n s l y m st W9 → c.wpIn Fence.wide n' P Q a W9) : rangePost Fence.wide n' P (w0.heap.size + 7) Q a (.returned v) W := range_jump h.b7 (hn _ _ (h.put7 _))
end
theorem al_get (w : World) (o : Obj) (k : Nat) : (w.alloc o).heap[k]? = if k = w.heap.size then some o else w.heap[k]? := Array.getElem?_push
theorem al8 (w : World) (o0 o1 o2 o3 o4 o5 o6 o7 : Obj) : ∀ W, W = (((((((w.alloc o0).alloc o1).alloc o2).alloc o3).alloc o4).alloc o5).alloc o6).alloc o7 → Below w.heap.size w W ∧ W.heap[w.heap.size]? = some o0 ∧ W.heap[w.heap.size + 1]? = some o1 ∧ W.heap[w.heap.size + 2]? = some o2 ∧ W.heap[w.heap.size + 3]? = some o3 ∧ W.heap[w.heap.size + 4]? = some o4 ∧ W.heap[w.heap.size + 5]? = some o5 ∧ W.heap[w.heap.size + 6]? = some o6 ∧ W.heap[w.heap.size + 7]? = some o7 := by
  rintro W rfl
  refine ⟨((((((((Below.refl _ w).alloc (by simp) _).alloc (by simp; try omega) _).alloc (by simp; try omega) _).alloc (by simp; try omega) _).alloc (by simp; try omega) _).alloc (by simp; try omega) _).alloc (by simp; try omega) _).alloc (by simp; try omega) _, ?_, ?_, ?_, ?_, ?_, ?_, ?_, ?_⟩
  all_goals
    simp only [al_get, World.size_alloc]
    repeat (first | rw [if_pos trivial] | rw [if_pos (by omega)] | rw [if_neg (by omega)])
theorem SW.start {w W : World} {n : Int} {x : Rat} {st : Obj} (h : W = (((((((w.alloc (.cells #[.int .i64 n] 3)).alloc (.cells #[.string ⟨#[]⟩, .string ⟨#[]⟩] 25)).alloc (.cells #[.string ⟨#[48]⟩] 22)).alloc (.cells #[.string ⟨#[48]⟩] 22)).alloc (.cells #[.int .i64 0] 3)).alloc (.cells #[sQ x] 22)).alloc (.deferred (some []))).alloc st) : SW w n 0 0 x 0 st W := by
  obtain ⟨hb, h0, h1, h2, h3, h4, h5, h6, h7⟩ := al8 w _ _ _ _ _ _ _ _ W h
  clear h
  exact ⟨hb, h0, h1, by rw [sQ_0]; exact h2, by rw [sQ_0]; exact h3, h4, h5, h6, h7⟩
theorem terms_in (F : Fence) (n : Nat) (h6 : F.fn 122) (hro : F.round = none) (x : Rat) (w : World) :
    CallsIn F n Tryz.prog 122 #[sQ x] w fun e w' => e = .returned (.func (.func 148) #[] #[.pointer (some ⟨w.heap.size, 0, none⟩)]) ∧ w' = w.alloc (.cells #[sQ x] 22) := by
  refine callsIn_of_wp Tryz.func122 rfl h6 ?_ hro
  simp only [Tryz.ntmps122, List.size_toArray, List.length_cons, List.length_nil, Nat.reduceAdd, Nat.reduceSub, Array.replicate_succ, Array.replicate_zero, List.push_toArray, List.append_toArray, List.nil_append, List.cons_append]
  gi_wp2
  go_ret
  exact ⟨rfl, rfl⟩
theorem ser_gen (x : Rat) (n : Nat) (hn : n ≤ 80) (hz : ∀ k, k ≤ n + 1 → Sz 1900 (xk x k)) (w : World) (hG : Gd w) (fn : FuncId) (tmps : Array Value) (assign body : Code)
    (hY : ∀ k W, k ≤ n → SW w n (psum x k) (psum x (k - 1)) (xk x k) k (recOf fn tmps #[11] assign body (w.heap.size + 6) .ready none) W → YieldAt Fence.wide 2 Tryz.prog (w.heap.size + 7) #[sQ (tm x k)] W fun e W' =>
      (e = .returned (.bool true) ∧ k + 1 ≤ n ∧ SW w n (psum x (k + 1)) (psum x k) (xk x k) (k + 1 : Nat) (recOf fn tmps #[11] assign body (w.heap.size + 6) .ready none) W') ∨
      (e = .returned (.bool false) ∧ SW w n (psum x (n + 1)) (psum x n) (xk x n) (n + 1 : Nat) (recOf fn tmps #[11] assign body (w.heap.size + 6) .done (some (.exit 0))) W')) :
    CallsIn Fence.wide 3 Tryz.prog 148 (#[.func (.yield (w.heap.size + 7)) #[] #[]] ++ #[.pointer (some ⟨w.heap.size + 5, 0, none⟩)])
      ((((((((w.alloc (.cells #[.int .i64 n] 3)).alloc (.cells #[.string ⟨#[]⟩, .string ⟨#[]⟩] 25)).alloc (.cells #[.string ⟨#[48]⟩] 22)).alloc (.cells #[.string ⟨#[48]⟩] 22)).alloc (.cells #[.int .i64 0] 3)).alloc (.cells #[sQ x] 22)).alloc (.deferred (some []))).alloc (recOf fn tmps #[11] assign body (w.heap.size + 6) .ready none))
      fun e W' => (∃ v, e = .returned v) ∧ SW w n (psum x (n + 1)) (psum x n) (xk x n) (n + 1 : Nat) (recOf fn tmps #[11] assign body (w.heap.size + 6) .done (some (.exit 0))) W' := by
  refine terms1_in (w.heap.size + 7) (w.heap.size + 5) x (n + 1) (by omega) hz
    (fun k W => k ≤ n ∧ SW w n (psum x k) (psum x (k - 1)) (xk x k) k (recOf fn tmps #[11] assign body (w.heap.size + 6) .ready none) W)
    (fun k W => k + 1 ≤ n ∧ SW w n (psum x (k + 1)) (psum x k) (xk x k) (k + 1 : Nat) (recOf fn tmps #[11] assign body (w.heap.size + 6) .ready none) W)
    _ (fun k W h => ⟨by omega, h.2.b5, gd _ _ hG h.2.below⟩) (fun k W W' h hB => ⟨h.1, h.2.grow hB⟩) (fun k W h => ⟨h.2.b5, gd _ _ hG h.2.below⟩) (fun k W W' h hB => ⟨h.1, h.2.grow hB⟩)
    (fun k W h => ⟨h.1, h.2.set5 _⟩) (fun k W h => ?_) _ ⟨Nat.zero_le _, SW.start rfl⟩
  obtain ⟨fn', t', as', bd', h1, h2⟩ := hY k W h.1 h.2
  exact ⟨fn', t', as', bd', h1, h2.mono fun e W' h => by
    rcases h with ⟨h1, h2, h3⟩ | ⟨h1, h2⟩
    · exact .inl ⟨h1, h2, h3⟩
    · exact .inr ⟨h1, h2⟩⟩
set_option maxRecDepth 100000 in
set_option maxHeartbeats 4000000 in
theorem ser_calls (x : Rat) (n : Nat) (hn : n ≤ 80) (hz : ∀ k, k ≤ n + 1 → Sz 1900 (xk x k)) (hp : ∀ k, k ≤ n + 1 → Sz 3900 (psum x k)) (ht : ∀ k, k ≤ n → Sz 3900 (tm x k)) (w : World) (hG : Gd w) :
    Calls Tryz.prog 81 #[sQ x, .int .i64 (n : Int)] w fun e w' => e = .returned (.agg #[sQ (serQ x n).1, sQ (serQ x n).2]) ∧ Below w.heap.size w w' := by
  refine (callsIn_wide (n := 4)).1 ?_
  refine callsIn_of_wp_marks Tryz.func81 rfl trivial ?_ rfl
  simp only [Tryz.ntmps81, List.size_toArray, List.length_cons, List.length_nil, Nat.reduceAdd, Nat.reduceSub, Array.replicate_succ, Array.replicate_zero, List.push_toArray, List.append_toArray, List.nil_append, List.cons_append]
  gi_wp2
  refine ⟨trivial, ?_⟩
  refine (terms_in _ _ trivial rfl x _).mono ?_
  rintro e w' ⟨rfl, rfl⟩
  gi_wp2
  refine range_start 3 (gf := 148) (lb := #[.pointer (some ⟨w.heap.size + 5, 0, none⟩)]) rfl (enters_of Tryz.func148 (by kernel_rfl) rfl) ?_
  intro fn
  simp only [World.size_alloc, Nat.add_assoc, Nat.reduceAdd]
  refine (ser_gen x n hn hz w hG fn _ _ _ ?hY).mono ?_
  case hY =>
    intro k W hk hs
    refine hs.round { tmps := #[sQ x, Value.int .i64 (n : Int), undef, .pointer (some ⟨w.heap.size, 0, none⟩), .pointer (some ⟨w.heap.size + 1, 0, none⟩), .pointer (some ⟨w.heap.size + 2, 0, none⟩), .pointer (some ⟨w.heap.size + 3, 0, none⟩), .pointer (some ⟨w.heap.size + 4, 0, none⟩), sQ (tm x k), sQ x, .func (.func 148) #[] #[.pointer (some ⟨w.heap.size + 5, 0, none⟩)], sQ (tm x k), undef, undef, undef, undef, undef, undef, undef, undef, undef, undef, undef, undef], defers := [] } rfl ?assign ?body
    case assign =>
      intro K hK
      gi_wp2
      exact hK
    case body =>
      intro W1 h1
      have c2 := cell_hp h1.b2
      have c3 := cell_hp h1.b3
      have c4 := cell_hp h1.b4
      have c0 := cell_hp h1.b0
      have hG1 : Gd W1.drew := gd _ _ hG h1.below.drew
      gi_wp2
      gi_region_with (refine ⟨trivial, ?_⟩; refine (CallsIn.inRound _ (callsIn_wide.2 (call2 (aadd_q (psum x k) (tm x k) ((hp k (by omega)).mono (by omega)) ((ht k hk).mono (by omega))) _ hG1))).mono ?_; rintro e W2 ⟨rfl, hB2⟩; have h2 := h1.grow ((Below.refl _ W1).drew.trans hB2); have d2 := cell_hp h2.b2; have d3 := cell_hp h2.b3; have f2 := cell_fz h2.b2; have f3 := cell_fz h2.b3)
      all_goals
        have h3 := (h2.set3 (psum x k)).set2 (psum x k + tm x k)
        generalize (W2.setCell _ _).setCell _ _ = W3 at h3 ⊢
        have e4 := cell_hp h3.b4
        have f4 := cell_fz h3.b4
        have hw : wrap64 ((k : Int) + 1) = ((k + 1 : Nat) : Int) := by unfold wrap64; omega
        have h4 := h3.set4 ((k : Int) + 1)
        have e5 := cell_hp h4.b4
        have e0 := cell_hp h4.b0
        gi_wp2
      all_goals first
        | (refine round_go h4.b7 (.inl ⟨rfl, by omega, ?_⟩); exact h4.put7 _)
        | (obtain rfl : k = n := by omega
           refine round_exit h4.b7 (.inr ⟨rfl, ?_⟩); exact h4.put7 _)
  · rintro e W8 ⟨⟨v, rfl⟩, h8⟩
    refine h8.jump fun W9 st h9 => ?_
    have c2 := cell_hp h9.b2
    have c3 := cell_hp h9.b3
    have hG9 := gd _ _ hG h9.below
    gi_wp2
    refine ⟨trivial, ?_⟩
    refine (callsIn_wide.2 (call2v (abet_q (psum x n) (psum x (n + 1)) ((hp n (by omega)).mono (by omega)) ((hp (n + 1) (by omega)).mono (by omega))) W9 hG9)).mono ?_
    rintro e W10 ⟨rfl, hB10⟩
    have h10 := h9.grow hB10
    obtain ⟨g0, g1, fz0, fz1⟩ := cell2_hp h10.b1
    gi_wp2
    have hb11 := (h10.below.setCell (p := ⟨w.heap.size + 1, 0, none⟩) (Nat.le_add_right _ _) (sQ (serQ x n).1)).setCell (p := ⟨w.heap.size + 1, 1, none⟩) (Nat.le_add_right _ _) (sQ (serQ x n).2)
    have hD := (Below.heap_setCell (W10.setCell ⟨w.heap.size + 1, 0, none⟩ (sQ (serQ x n).1)) ⟨w.heap.size + 1, 1, none⟩ (sQ (serQ x n).2) (w.heap.size + 6) (by simp)).trans ((Below.heap_setCell W10 ⟨w.heap.size + 1, 0, none⟩ (sQ (serQ x n).1) (w.heap.size + 6) (by simp)).trans h10.b6)
    have hc := set2c (u' := sQ (serQ x n).1) (v' := sQ (serQ x n).2) h10.b1
    unfold serQ at hb11 hD hc ⊢
    generalize (W10.setCell _ _).setCell _ _ = W11 at hb11 hD hc ⊢
    refine ⟨by simp, .inl ⟨_, _, rfl, run_takeDeferred hD, ?_⟩⟩
    have hd := hp_other hc (k := w.heap.size + 6) (o := .deferred none) (by omega)
    have hb12 := hb11.trans (belowK_b (w := w) (Nat.le_refl _) W11 (w.heap.size + 6) _ (.deferred none) (by omega) hD rfl rfl)
    obtain ⟨g0, g1, fz0, fz1⟩ := cell2_hp hd
    generalize W11.putObj _ _ = W12 at hd hb12 g0 g1 fz0 fz1 ⊢
    refine ⟨_, ?_, rfl, hb12⟩
    simp [results, Tryz.f81, go_sem, g0, g1, fz0, fz1]
theorem ser_q (x : Rat) (n : Nat) (hn : n ≤ 80) (hz : ∀ k, k ≤ n + 1 → Sz 1900 (xk x k)) (hp : ∀ k, k ≤ n + 1 → Sz 3900 (psum x k)) (ht : ∀ k, k ≤ n → Sz 3900 (tm x k)) :
    Meets Tryz.prog Gd 81 [rtP x, iP (n : Int)] (ivQ (serQ x n)) := by
  refine ⟨enters_of Tryz.func81 (by kernel_rfl) rfl, fun B vs w hB hr hG => ?_⟩
  simp only [RepL, RepP, rtP, strP, iP] at hr
  obtain ⟨a, xs, rfl, rfl, b, ys, rfl, rfl, rfl⟩ := hr
  refine (ser_calls x n hn hz hp ht w hG).mono ?_
  rintro e W' ⟨rfl, hb⟩
  refine ⟨_, rfl, ?_, hb⟩
  rw [ivQ_iv]
  simp [ivP, strP, RepP, RepL]
end Go.Proofs.YtolehnkoocnenaaGreatDoor.S
namespace Gb
open Go Go.RowKit Go.Sx
theorem Sz.addT {k m : Nat} {x y : Rat} (hx : Sz k x) (hy : Sz m y) : Sz (k + m + 1) (x + y) := by
  rw [Rat.add_def]
  have h1 := Lw_imul x.num y.den
  have h2 := Lw_imul y.num x.den
  have h3 := Lw_iadd (x.num * y.den) (y.num * x.den)
  have h4 := Lw_mul x.den y.den
  have := hx.1; have := hx.2; have := hy.1; have := hy.2
  rw [Int.natAbs_natCast] at h1 h2
  exact Sz.norm _ (by omega) (by omega)
theorem Sz.mulT {k m : Nat} {x y : Rat} (hx : Sz k x) (hy : Sz m y) : Sz (k + m) (x * y) := by
  rw [Rat.mul_def]
  have h2 := Lw_imul x.num y.num
  have h4 := Lw_mul x.den y.den
  have := hx.1; have := hx.2; have := hy.1; have := hy.2
  exact Sz.norm _ (by omega) (by omega)
theorem Sz.divT {k m : Nat} {x y : Rat} (hx : Sz k x) (hy : Sz m y) (hm : 1 ≤ m) : Sz (k + m) (x / y) := by
  rw [Rat.div_def]; exact hx.mulT (hy.inv hm)
theorem Sz.subT {k m : Nat} {x y : Rat} (hx : Sz k x) (hy : Sz m y) : Sz (k + m + 1) (x - y) := by
  rw [Rat.sub_eq_add_neg]; exact hx.addT hy.neg
theorem xk_sz {a : Nat} {x : Rat} (h : Sz a x) (ha : 1 ≤ a) : ∀ k, Sz ((2 * k + 1) * a) (xk x k)
  | 0 => h.mono (by omega)
  | k + 1 => ((xk_sz h ha k).mulT (Sz.neg1 (Sz0 (a + a) (by omega)) (h.mulT h))).mono (by grind)
theorem tm_sz {a : Nat} {x : Rat} (h : Sz a x) (ha : 1 ≤ a) (k : Nat) (hk : k < 100) : Sz ((2 * k + 1) * a + 1) (tm x k) := (xk_sz h ha k).divT (od_sz k hk) (by omega)
theorem psum_sz {a : Nat} {x : Rat} (h : Sz a x) (ha : 1 ≤ a) : ∀ k, k < 100 → Sz (k * k * a + 2 * k + 1) (psum x k)
  | 0, _ => Sz0 _ (by omega)
  | k + 1, hk => ((psum_sz h ha k (by omega)).addT (tm_sz h ha k (by omega))).mono (by grind)
theorem betQ_sz {k : Nat} {a b : Rat} (ha : Sz k a) (hb : Sz k b) : SzI k (betQ a b) := by unfold betQ; split <;> exact ⟨by assumption, by assumption⟩
theorem betQ_le (a b : Rat) : (betQ a b).1 ≤ (betQ a b).2 := by unfold betQ; split <;> grind
theorem betQ_join (a b : Rat) : joinQ (a, a) (b, b) = betQ a b := by unfold joinQ betQ leastQ mostQ; grind
theorem serQ_sz {a : Nat} {x : Rat} (h : Sz a x) (ha : 1 ≤ a) (n : Nat) (hn : n ≤ 6) : SzI (49 * a + 15) (serQ x n) := by
  have h1 : n * n * a ≤ 36 * a := Nat.mul_le_mul_right a (by have := Nat.mul_le_mul hn hn; omega)
  have h2 : (n + 1) * (n + 1) * a ≤ 49 * a := Nat.mul_le_mul_right a (by have := Nat.mul_le_mul (show n + 1 ≤ 7 by omega) (show n + 1 ≤ 7 by omega); omega)
  exact betQ_sz ((psum_sz h ha n (by omega)).mono (by omega)) ((psum_sz h ha (n + 1) (by omega)).mono (by omega))
theorem serQ_le (x : Rat) (n : Nat) : (serQ x n).1 ≤ (serQ x n).2 := betQ_le _ _
def timQ (p : Rat × Rat) (k : Rat) : Rat × Rat := betQ (p.1 * k) (p.2 * k)
def minQ (p q : Rat × Rat) : Rat × Rat := (p.1 - q.2, p.2 - q.1)
theorem timQ_le (p : Rat × Rat) (k : Rat) : (timQ p k).1 ≤ (timQ p k).2 := betQ_le _ _
theorem minQ_le {p q : Rat × Rat} (hp : p.1 ≤ p.2) (hq : q.1 ≤ q.2) : (minQ p q).1 ≤ (minQ p q).2 := by unfold minQ; grind
theorem timQ_sz {k m : Nat} {p : Rat × Rat} {x : Rat} (hp : SzI k p) (hx : Sz m x) : SzI (k + m) (timQ p x) := betQ_sz (hp.1.mulT hx) (hp.2.mulT hx)
theorem minQ_sz {k m : Nat} {p q : Rat × Rat} (hp : SzI k p) (hq : SzI m q) : SzI (k + m + 1) (minQ p q) := ⟨hp.1.subT hq.2, hp.2.subT hq.1⟩
theorem timQ_scale (p : Rat × Rat) (k : Rat) : scaleQ p k = timQ p k := betQ_join _ _
def piQ (n : Nat) : Rat × Rat := minQ (timQ (serQ (1 / 5) n) 16) (timQ (serQ (1 / 239) n) 4)
def arcU (x : Rat) (n : Nat) : Rat × Rat := minQ (timQ (piQ n) (1 / 4)) (serQ ((1 - x) / (1 + x)) n)
def inH (x : Rat) : Bool := !decide (1 / 2 < x) && !decide (x < 0 - 1 / 2)
def arcQ (x : Rat) (n : Nat) : Rat × Rat := if inH x then serQ x n else if x < 0 then timQ (arcU (0 - x) n) (-1) else arcU x n
def degQ (x : Rat) (n : Nat) : Rat × Rat := overQ (timQ (arcQ x n) 360) (piQ n)
theorem cst (l : List UInt8) (x : Rat) (h : (isRat l && decide (ratOf l = x)) = true) : rtP x = strP l ∧ Sz (l.length / 9 + 1) x := by
  simp only [Bool.and_eq_true, decide_eq_true_eq] at h
  rw [← h.2]
  exact ⟨rtP_of h.1, Sz.text h.1⟩
theorem c15 : rtP ((1 / 5)) = strP [49, 47, 53] ∧ Sz 1 ((1 / 5) : Rat) := cst [49, 47, 53] ((1 / 5)) (by decide +kernel)
theorem c1239 : rtP ((1 / 239)) = strP [49, 47, 50, 51, 57] ∧ Sz 1 ((1 / 239) : Rat) := cst [49, 47, 50, 51, 57] ((1 / 239)) (by decide +kernel)
theorem c16 : rtP (16) = strP [49, 54] ∧ Sz 1 (16 : Rat) := cst [49, 54] (16) (by decide +kernel)
theorem c4 : rtP (4) = strP [52] ∧ Sz 1 (4 : Rat) := cst [52] (4) (by decide +kernel)
theorem c12 : rtP ((1 / 2)) = strP [49, 47, 50] ∧ Sz 1 ((1 / 2) : Rat) := cst [49, 47, 50] ((1 / 2)) (by decide +kernel)
theorem c14 : rtP ((1 / 4)) = strP [49, 47, 52] ∧ Sz 1 ((1 / 4) : Rat) := cst [49, 47, 52] ((1 / 4)) (by decide +kernel)
theorem c360 : rtP (360) = strP [51, 54, 48] ∧ Sz 1 (360 : Rat) := cst [51, 54, 48] (360) (by decide +kernel)
theorem cm1 : rtP ((-1)) = strP [45, 49] ∧ Sz 1 ((-1) : Rat) := cst [45, 49] ((-1)) (by decide +kernel)
theorem c90 : rtP (90) = strP [57, 48] ∧ Sz 1 (90 : Rat) := cst [57, 48] (90) (by decide +kernel)
theorem c1 : rtP (1) = strP [49] ∧ Sz 1 (1 : Rat) := cst [49] (1) (by decide +kernel)
theorem c0 : rtP (0) = strP [48] ∧ Sz 1 (0 : Rat) := cst [48] (0) (by decide +kernel)
theorem piQ_sz (n : Nat) (hn : n ≤ 6) : SzI 131 (piQ n) := (minQ_sz (timQ_sz (serQ_sz (c15.2) (by omega) n hn) (c16.2)) (timQ_sz (serQ_sz (c1239.2) (by omega) n hn) (c4.2))).mono (by omega)
theorem piQ_le (n : Nat) : (piQ n).1 ≤ (piQ n).2 := minQ_le (timQ_le _ _) (timQ_le _ _)
theorem piQ_pos (n : Nat) (h1 : 1 ≤ n) (h2 : n ≤ 6) : 3 < (piQ n).1 := by
  have : (List.range 6).all (fun k => decide (3 < (piQ (k + 1)).1)) = true := by decide +kernel
  have := List.all_eq_true.1 this (n - 1) (List.mem_range.2 (by omega))
  rw [show n - 1 + 1 = n by omega] at this
  simpa using this
end Gb
namespace Gb
open Go Go.RowKit Go.Sx
end Gb
namespace Go.Proofs.YtolehnkoocnenaaGreatDoor.S
open Go Go.Sx Go.RowKit Gb Go.Shelf
end Go.Proofs.YtolehnkoocnenaaGreatDoor.S
namespace Gb
open Go Go.RowKit Go.Sx
end Gb
namespace Go.Proofs.YtolehnkoocnenaaGreatDoor.S
open Go Go.Sx Go.RowKit Gb Go.Shelf
end Go.Proofs.YtolehnkoocnenaaGreatDoor.S
namespace Go.Proofs.YtolehnkoocnenaaGreatDoor.S
open Go Go.Sx Go.RowKit Gb Go.Shelf
end Go.Proofs.YtolehnkoocnenaaGreatDoor.S
namespace Gb
open Go Go.RowKit Go.Sx
def cntE (n : Int) : Int := if n < 1 ∨ 24 < n then 2 else 0
def askE (t : List UInt8) (n : Int) : Int := if achk [t] = 0 then cntE n else achk [t]
theorem inU_rec {x : Rat} (h : inU x = true) : (0 - 1 ≤ x) ∧ x ≤ 1 := by
  unfold inU at h
  simp only [Bool.and_eq_true, Bool.not_eq_true', decide_eq_false_iff_not] at h
  grind
theorem ivQ_pair (p : Rat × Rat) : ivQ p = ivP (rT p.1) (rT p.2) := rfl
end Gb
namespace Go.Proofs.YtolehnkoocnenaaGreatDoor.S
open Go Go.Sx Go.RowKit Gb Go.Shelf
set_option maxRecDepth 100000 in
theorem atimes_q (p : Rat × Rat) (k : Rat) (hp : SzI 1900 p) (hk : Sz 1900 k) : Meets Tryz.prog Gd 82 [ivQ p, rtP k] (ivQ (timQ p k)) := by
  refine meets_of_vc (Y := {}) (N := 14) (rs := [.cell 4 96]) mix tk gd Tryz.func82 rfl (by kernel_rfl) rfl rfl (by simp) (by kernel_rfl) ?_
  obtain ⟨a, b⟩ := p
  rw [ivQ_pair]
  unfold timQ
  dsimp only
  have B := abet_q (a * k) (b * k) ((hp.1.mul hk).mono (by omega)) ((hp.2.mul hk).mono (by omega))
  generalize betQ (a * k) (b * k) = r at B ⊢
  rw [ivQ_pair r] at B ⊢
  simp (maxSteps := 10000000) only [↓sx, sx, ↓ty, ↓reduceIte, Nat.reduceEqDiff, Nat.reduceBeqDiff, Nat.reduceAdd, Nat.reduceLeDiff, Nat.reduceLT, Nat.reduceMul, Nat.reduceSub, Int.reduceEq, Int.reduceBNe, Int.reduceBEq, ne_eq, not_false_eq_true, pc, ls, bs, and_true, true_and, and_self, Nat.reduceAdd, Nat.le_refl, leafP, pi]
  refine CallT.mk (t := ⟨⟩) (amul_q a k (hp.1.mono (by omega)) (hk.mono (by omega))) ?_
  simp (maxSteps := 10000000) only [↓sx, sx, ↓ty, ↓reduceIte, Nat.reduceEqDiff, Nat.reduceBeqDiff, Nat.reduceAdd, Nat.reduceLeDiff, Nat.reduceLT, Nat.reduceMul, Nat.reduceSub, Int.reduceEq, Int.reduceBNe, Int.reduceBEq, ne_eq, not_false_eq_true, pc, ls, bs, and_true, true_and, and_self, Nat.reduceAdd, Nat.le_refl, leafP, pi]
  refine CallT.mk (t := ⟨⟩) (amul_q b k (hp.2.mono (by omega)) (hk.mono (by omega))) ?_
  simp (maxSteps := 10000000) only [↓sx, sx, ↓ty, ↓reduceIte, Nat.reduceEqDiff, Nat.reduceBeqDiff, Nat.reduceAdd, Nat.reduceLeDiff, Nat.reduceLT, Nat.reduceMul, Nat.reduceSub, Int.reduceEq, Int.reduceBNe, Int.reduceBEq, ne_eq, not_false_eq_true, pc, ls, bs, and_true, true_and, and_self, Nat.reduceAdd, Nat.le_refl, leafP, pi]
  refine CallT.mk (t := ⟨⟩) B ?_
  simp (maxSteps := 10000000) only [↓sx, sx, ↓ty, ↓reduceIte, Nat.reduceEqDiff, Nat.reduceBeqDiff, Nat.reduceAdd, Nat.reduceLeDiff, Nat.reduceLT, Nat.reduceMul, Nat.reduceSub, Int.reduceEq, Int.reduceBNe, Int.reduceBEq, ne_eq, not_false_eq_true, pc, ls, bs, and_true, true_and, and_self, Nat.reduceAdd, Nat.le_refl, leafP, pi]
set_option maxRecDepth 100000 in
theorem aminus_q (p q : Rat × Rat) (hp : p.1 ≤ p.2) (hq : q.1 ≤ q.2) (sp : SzI 700 p) (sq : SzI 700 q) : Meets Tryz.prog Gd 83 [ivQ p, ivQ q] (ivQ (minQ p q)) := by
  refine meets_of_vc (Y := {}) (N := 14) (rs := [.cell 4 25]) mix tk gd Tryz.func83 rfl (by kernel_rfl) rfl rfl (by simp) (by kernel_rfl) ?_
  have S := isub2_n (rT p.1) (rT p.2) (rT q.1) (rT q.2) (by have := rT_len sp.1; omega) (by have := rT_len sp.2; omega) (by have := rT_len sq.1; omega) (by have := rT_len sq.2; omega)
  unfold icorP at S
  rw [isIv_rT hp, isIv_rT hq, ratOf_rT, ratOf_rT, ratOf_rT, ratOf_rT, corQ_sub hp hq, if_pos (show (true && true) = true from rfl)] at S
  rw [ivQ_pair p, ivQ_pair q]
  rw [ivQ_pair (minQ p q)]
  unfold minQ
  rw [ivQ_pair] at S
  simp (maxSteps := 10000000) only [↓sx, sx, ↓ty, ↓reduceIte, Nat.reduceEqDiff, Nat.reduceBeqDiff, Nat.reduceAdd, Nat.reduceLeDiff, Nat.reduceLT, Nat.reduceMul, Nat.reduceSub, Int.reduceEq, Int.reduceBNe, Int.reduceBEq, ne_eq, not_false_eq_true, pc, ls, bs, and_true, true_and, and_self, Nat.reduceAdd, Nat.le_refl, leafP, pi]
  refine CallT.mk (t := ⟨⟩) S ?_
  simp (maxSteps := 10000000) only [↓sx, sx, ↓ty, ↓reduceIte, Nat.reduceEqDiff, Nat.reduceBeqDiff, Nat.reduceAdd, Nat.reduceLeDiff, Nat.reduceLT, Nat.reduceMul, Nat.reduceSub, Int.reduceEq, Int.reduceBNe, Int.reduceBEq, ne_eq, not_false_eq_true, pc, ls, bs, and_true, true_and, and_self, Nat.reduceAdd, Nat.le_refl, leafP, pi]
set_option maxRecDepth 100000 in
theorem acount_n (n : Int) : Meets Tryz.prog Gd 38 [iP n] (iP (cntE n)) := by
  refine meets_of_vc (Y := {}) (N := 9) (rs := [.tmp 2]) mix tk gd Tryz.func38 rfl (by kernel_rfl) rfl rfl (by simp) (by kernel_rfl) ?_
  unfold cntE
  by_cases h : n < 1
  · have e : decide (n < 1) = true := decide_eq_true h
    rw [if_pos (.inl h)]
    simp (maxSteps := 10000000) only [↓sx, sx, ↓ty, ↓reduceIte, Nat.reduceEqDiff, Nat.reduceBeqDiff, Nat.reduceAdd, Nat.reduceLeDiff, Nat.reduceLT, Nat.reduceMul, Nat.reduceSub, Int.reduceEq, Int.reduceBNe, Int.reduceBEq, ne_eq, not_false_eq_true, pc, ls, bs, and_true, true_and, and_self, Nat.reduceAdd, Nat.le_refl, leafP, e]
  · have e : decide (n < 1) = false := decide_eq_false h
    by_cases h2 : 24 < n
    · have e2 : decide (24 < n) = true := decide_eq_true h2
      rw [if_pos (.inr h2)]
      simp (maxSteps := 10000000) only [↓sx, sx, ↓ty, ↓reduceIte, Nat.reduceEqDiff, Nat.reduceBeqDiff, Nat.reduceAdd, Nat.reduceLeDiff, Nat.reduceLT, Nat.reduceMul, Nat.reduceSub, Int.reduceEq, Int.reduceBNe, Int.reduceBEq, ne_eq, not_false_eq_true, pc, ls, bs, and_true, true_and, and_self, Nat.reduceAdd, Nat.le_refl, leafP, e, e2]
    · have e2 : decide (24 < n) = false := decide_eq_false h2
      rw [if_neg (by omega)]
      simp (maxSteps := 10000000) only [↓sx, sx, ↓ty, ↓reduceIte, Nat.reduceEqDiff, Nat.reduceBeqDiff, Nat.reduceAdd, Nat.reduceLeDiff, Nat.reduceLT, Nat.reduceMul, Nat.reduceSub, Int.reduceEq, Int.reduceBNe, Int.reduceBEq, ne_eq, not_false_eq_true, pc, ls, bs, and_true, true_and, and_self, Nat.reduceAdd, Nat.le_refl, leafP, e, e2]
set_option maxRecDepth 100000 in
theorem aask_n (t : List UInt8) (n : Int) (ht : t.length < 3000) : Meets Tryz.prog Gd 43 [strP t, iP n] (iP (askE t n)) := by
  refine meets_of_vc (Y := {}) (N := 14) (rs := [.tmp 4]) mix tk gd Tryz.func43 rfl (by kernel_rfl) rfl rfl (by simp) (by kernel_rfl) ?_
  have C := acheck_n [t] (by simp) (by simp; omega)
  unfold askE
  simp (maxSteps := 10000000) only [↓sx, sx, ↓ty, ↓reduceIte, Nat.reduceEqDiff, Nat.reduceBeqDiff, Nat.reduceAdd, Nat.reduceLeDiff, Nat.reduceLT, Nat.reduceMul, Nat.reduceSub, Int.reduceEq, Int.reduceBNe, Int.reduceBEq, ne_eq, not_false_eq_true, pc, ls, bs, and_true, true_and, and_self, Nat.reduceAdd, Nat.le_refl, leafP]
  refine CallT.mk (t := ⟨⟩) C ?_
  by_cases h : achk [t] = 0
  · rw [if_pos h, h]
    simp (maxSteps := 10000000) only [↓sx, sx, ↓ty, ↓reduceIte, Nat.reduceEqDiff, Nat.reduceBeqDiff, Nat.reduceAdd, Nat.reduceLeDiff, Nat.reduceLT, Nat.reduceMul, Nat.reduceSub, Int.reduceEq, Int.reduceBNe, Int.reduceBEq, ne_eq, not_false_eq_true, pc, ls, bs, and_true, true_and, and_self, Nat.reduceAdd, Nat.le_refl, leafP]
    refine CallT.mk (t := ⟨⟩) (acount_n n) ?_
    simp (maxSteps := 10000000) only [↓sx, sx, ↓ty, ↓reduceIte, Nat.reduceEqDiff, Nat.reduceBeqDiff, Nat.reduceAdd, Nat.reduceLeDiff, Nat.reduceLT, Nat.reduceMul, Nat.reduceSub, Int.reduceEq, Int.reduceBNe, Int.reduceBEq, ne_eq, not_false_eq_true, pc, ls, bs, and_true, true_and, and_self, Nat.reduceAdd, Nat.le_refl, leafP]
  · have d0 : (achk [t] != 0) = true := by simp [h]
    rw [if_neg h]
    simp (maxSteps := 10000000) only [↓sx, sx, ↓ty, ↓reduceIte, Nat.reduceEqDiff, Nat.reduceBeqDiff, Nat.reduceAdd, Nat.reduceLeDiff, Nat.reduceLT, Nat.reduceMul, Nat.reduceSub, Int.reduceEq, Int.reduceBNe, Int.reduceBEq, ne_eq, not_false_eq_true, pc, ls, bs, and_true, true_and, and_self, Nat.reduceAdd, Nat.le_refl, leafP, d0]
theorem ser_n (x : Rat) (a n : Nat) (h : Sz a x) (ha : 1 ≤ a) (ha2 : a ≤ 30) (hn : n ≤ 6) : Meets Tryz.prog Gd 81 [rtP x, iP (n : Int)] (ivQ (serQ x n)) := by
  have hm : ∀ k, k ≤ 7 → k * k * a ≤ 49 * a := fun k hk => Nat.mul_le_mul_right a (by have := Nat.mul_le_mul hk hk; omega)
  have ho : ∀ k, k ≤ 7 → (2 * k + 1) * a ≤ 15 * a := fun k hk => Nat.mul_le_mul_right a (by omega)
  refine ser_q x n (by omega) (fun k hk => (xk_sz h ha k).mono ?_) (fun k hk => (psum_sz h ha k (by omega)).mono ?_) (fun k hk => (tm_sz h ha k (by omega)).mono ?_)
  · have := ho k (by omega); omega
  · have := hm k (by omega); omega
  · have := ho k (by omega); omega
set_option maxRecDepth 100000 in
theorem api_q (n : Nat) (hn : n ≤ 6) : Meets Tryz.prog Gd 39 [iP (n : Int)] (ivQ (piQ n)) := by
  refine meets_of_vc (Y := {}) (N := 13) (rs := [.cell 2 25]) mix tk gd Tryz.func39 rfl (by kernel_rfl) rfl rfl (by simp) (by kernel_rfl) ?_
  have S1 := ser_n (1 / 5) 1 n c15.2 (by omega) (by omega) hn
  have S2 := ser_n (1 / 239) 1 n c1239.2 (by omega) (by omega) hn
  have z1 := serQ_sz c15.2 (by omega) n hn
  have z2 := serQ_sz c1239.2 (by omega) n hn
  have T1 := atimes_q (serQ (1 / 5) n) 16 (z1.mono (by omega)) (c16.2.mono (by omega))
  have T2 := atimes_q (serQ (1 / 239) n) 4 (z2.mono (by omega)) (c4.2.mono (by omega))
  have M := aminus_q (timQ (serQ (1 / 5) n) 16) (timQ (serQ (1 / 239) n) 4) (timQ_le _ _) (timQ_le _ _) ((timQ_sz z1 c16.2).mono (by omega)) ((timQ_sz z2 c4.2).mono (by omega))
  rw [c15.1] at S1
  rw [c1239.1] at S2
  rw [c16.1] at T1
  rw [c4.1] at T2
  unfold piQ
  generalize minQ (timQ (serQ (1 / 5) n) 16) (timQ (serQ (1 / 239) n) 4) = r at M ⊢
  generalize timQ (serQ (1 / 5) n) 16 = u1 at T1 M
  generalize timQ (serQ (1 / 239) n) 4 = u2 at T2 M
  generalize serQ (1 / 5) n = s1 at S1 T1
  generalize serQ (1 / 239) n = s2 at S2 T2
  rw [ivQ_pair] at S1 S2
  rw [ivQ_pair s1, ivQ_pair u1] at T1
  rw [ivQ_pair s2, ivQ_pair u2] at T2
  rw [ivQ_pair u1, ivQ_pair u2, ivQ_pair r] at M
  rw [ivQ_pair]
  simp (maxSteps := 10000000) only [↓sx, sx, ↓ty, ↓reduceIte, Nat.reduceEqDiff, Nat.reduceBeqDiff, Nat.reduceAdd, Nat.reduceLeDiff, Nat.reduceLT, Nat.reduceMul, Nat.reduceSub, Int.reduceEq, Int.reduceBNe, Int.reduceBEq, ne_eq, not_false_eq_true, pc, ls, bs, and_true, true_and, and_self, Nat.reduceAdd, Nat.le_refl, leafP, pi]
  refine CallT.mk (t := ⟨⟩) S1 ?_
  simp (maxSteps := 10000000) only [↓sx, sx, ↓ty, ↓reduceIte, Nat.reduceEqDiff, Nat.reduceBeqDiff, Nat.reduceAdd, Nat.reduceLeDiff, Nat.reduceLT, Nat.reduceMul, Nat.reduceSub, Int.reduceEq, Int.reduceBNe, Int.reduceBEq, ne_eq, not_false_eq_true, pc, ls, bs, and_true, true_and, and_self, Nat.reduceAdd, Nat.le_refl, leafP, pi]
  refine CallT.mk (t := ⟨⟩) T1 ?_
  simp (maxSteps := 10000000) only [↓sx, sx, ↓ty, ↓reduceIte, Nat.reduceEqDiff, Nat.reduceBeqDiff, Nat.reduceAdd, Nat.reduceLeDiff, Nat.reduceLT, Nat.reduceMul, Nat.reduceSub, Int.reduceEq, Int.reduceBNe, Int.reduceBEq, ne_eq, not_false_eq_true, pc, ls, bs, and_true, true_and, and_self, Nat.reduceAdd, Nat.le_refl, leafP, pi]
  refine CallT.mk (t := ⟨⟩) S2 ?_
  simp (maxSteps := 10000000) only [↓sx, sx, ↓ty, ↓reduceIte, Nat.reduceEqDiff, Nat.reduceBeqDiff, Nat.reduceAdd, Nat.reduceLeDiff, Nat.reduceLT, Nat.reduceMul, Nat.reduceSub, Int.reduceEq, Int.reduceBNe, Int.reduceBEq, ne_eq, not_false_eq_true, pc, ls, bs, and_true, true_and, and_self, Nat.reduceAdd, Nat.le_refl, leafP, pi]
  refine CallT.mk (t := ⟨⟩) T2 ?_
  simp (maxSteps := 10000000) only [↓sx, sx, ↓ty, ↓reduceIte, Nat.reduceEqDiff, Nat.reduceBeqDiff, Nat.reduceAdd, Nat.reduceLeDiff, Nat.reduceLT, Nat.reduceMul, Nat.reduceSub, Int.reduceEq, Int.reduceBNe, Int.reduceBEq, ne_eq, not_false_eq_true, pc, ls, bs, and_true, true_and, and_self, Nat.reduceAdd, Nat.le_refl, leafP, pi]
  refine CallT.mk (t := ⟨⟩) M ?_
  simp (maxSteps := 10000000) only [↓sx, sx, ↓ty, ↓reduceIte, Nat.reduceEqDiff, Nat.reduceBeqDiff, Nat.reduceAdd, Nat.reduceLeDiff, Nat.reduceLT, Nat.reduceMul, Nat.reduceSub, Int.reduceEq, Int.reduceBNe, Int.reduceBEq, ne_eq, not_false_eq_true, pc, ls, bs, and_true, true_and, and_self, Nat.reduceAdd, Nat.le_refl, leafP, pi]
end Go.Proofs.YtolehnkoocnenaaGreatDoor.S
namespace Gb
open Go Go.RowKit Go.Sx
theorem inH_of (x : Rat) : (!decide (1 / 2 < x) && !decide (x < 0 - 1 / 2)) = inH x := rfl
theorem rest_sz {x : Rat} (h : Sz 2 x) : Sz 8 ((1 - x) / (1 + x)) := ((c1.2.subT h).divT (c1.2.addT h) (by omega)).mono (by omega)
theorem arcU_sz {x : Rat} (h : Sz 2 x) (n : Nat) (hn : n ≤ 6) : SzI 540 (arcU x n) := (minQ_sz (timQ_sz (piQ_sz n hn) c14.2) (serQ_sz (rest_sz h) (by omega) n hn)).mono (by omega)
theorem arcU_le (x : Rat) (n : Nat) : (arcU x n).1 ≤ (arcU x n).2 := minQ_le (timQ_le _ _) (serQ_le _ _)
theorem neg_sz2 {x : Rat} (h : Sz 2 x) : Sz 2 (0 - x) := Sz.neg1 (Sz0 _ (by omega)) h
theorem arcQ_sz {x : Rat} (h : Sz 2 x) (n : Nat) (hn : n ≤ 6) : SzI 541 (arcQ x n) := by
  unfold arcQ
  split
  · exact (serQ_sz h (by omega) n hn).mono (by omega)
  · split
    · exact timQ_sz (arcU_sz (neg_sz2 h) n hn) cm1.2
    · exact (arcU_sz h n hn).mono (by omega)
theorem arcQ_le (x : Rat) (n : Nat) : (arcQ x n).1 ≤ (arcQ x n).2 := by
  unfold arcQ
  split
  · exact serQ_le _ _
  · split
    · exact timQ_le _ _
    · exact arcU_le _ _
theorem joinQ_le {p q : Rat × Rat} (hp : p.1 ≤ p.2) (hq : q.1 ≤ q.2) : (joinQ p q).1 ≤ (joinQ p q).2 := by unfold joinQ leastQ mostQ; grind
theorem overQ_le (p q : Rat × Rat) : (overQ p q).1 ≤ (overQ p q).2 := by
  unfold overQ timesQ
  rw [timQ_scale, timQ_scale]
  exact joinQ_le (timQ_le _ _) (timQ_le _ _)
theorem degQ_le (x : Rat) (n : Nat) : (degQ x n).1 ≤ (degQ x n).2 := overQ_le _ _
theorem degQ_sz {x : Rat} (h : Sz 2 x) (n : Nat) (hn : n ≤ 6) : SzI 1084 (degQ x n) :=
  (overQ_sz (k := 542) (by omega) (timQ_sz (arcQ_sz h n hn) c360.2) ((piQ_sz n hn).mono (by omega))).mono (by omega)
theorem inH_big {x : Rat} (h : inH x = false) (h0 : x < 0) : inH (0 - x) = false ∧ ¬ (0 - x < 0) := by
  unfold inH at *
  simp only [Bool.and_eq_false_iff, Bool.not_eq_false', decide_eq_true_eq] at *
  grind
theorem rest_ne {x : Rat} (h : inH x = false) (h0 : ¬ x < 0) : 1 + x ≠ 0 := by grind
end Gb
namespace Go.Proofs.YtolehnkoocnenaaGreatDoor.S
open Go Go.Sx Go.RowKit Gb Go.Shelf
theorem aidiv_q (p q : Rat × Rat) (hp : p.1 ≤ p.2) (hq : q.1 ≤ q.2) (h0 : 0 < q.1) (sp : SzI 700 p) (sq : SzI 700 q) : Meets Tryz.prog Gd 89 [ivQ p, ivQ q] (.tup [ivQ (overQ p q), iP 0]) := by
  have S := idiv2_n (rT p.1) (rT p.2) (rT q.1) (rT q.2) (by have := rT_len sp.1; omega) (by have := rT_len sp.2; omega) (by have := rT_len sq.1; omega) (by have := rT_len sq.2; omega)
  unfold idivP icorP zeroIn at S
  rw [isIv_rT hp, isIv_rT hq, ratOf_rT, ratOf_rT, ratOf_rT, ratOf_rT, corQ_div, decide_eq_true h0] at S
  exact S
set_option maxRecDepth 100000 in
theorem aarc_up (x : Rat) (n : Nat) (hx : Sz 2 x) (hn : n ≤ 6) (h : inH x = false) (h0 : ¬ x < 0) : Meets Tryz.prog Gd 44 [rtP x, iP (n : Int)] (ivQ (arcU x n)) := by
  refine meets_of_vc (Y := {}) (N := 30) (rs := [.cell 4 25]) mix tk gd Tryz.func44 rfl (by kernel_rfl) rfl rfl (by simp) (by kernel_rfl) ?_
  have W := awithin_q x (1 / 2) (hx.mono (by omega)) (c12.2.mono (by omega))
  rw [inH_of, h, c12.1] at W
  have L := aless_q x 0 (hx.mono (by omega)) (Sz0 _ (by omega))
  rw [decide_eq_false h0, c0.1] at L
  have P := api_q n hn
  have T := atimes_q (piQ n) (1 / 4) ((piQ_sz n hn).mono (by omega)) (c14.2.mono (by omega))
  rw [c14.1] at T
  have S := asub_q 1 x (c1.2.mono (by omega)) (hx.mono (by omega))
  have A := aadd_q 1 x (c1.2.mono (by omega)) (hx.mono (by omega))
  rw [c1.1] at S A
  have D := adiv_q (1 - x) (1 + x) ((c1.2.subT hx).mono (by omega)) ((c1.2.addT hx).mono (by omega)) (rest_ne h h0)
  have R := ser_n ((1 - x) / (1 + x)) 8 n (rest_sz hx) (by omega) (by omega) hn
  have M := aminus_q (timQ (piQ n) (1 / 4)) (serQ ((1 - x) / (1 + x)) n) (timQ_le _ _) (serQ_le _ _) ((timQ_sz (piQ_sz n hn) c14.2).mono (by omega)) ((serQ_sz (rest_sz hx) (by omega) n hn).mono (by omega))
  unfold arcU
  generalize minQ (timQ (piQ n) (1 / 4)) (serQ ((1 - x) / (1 + x)) n) = r at M ⊢
  generalize timQ (piQ n) (1 / 4) = u1 at T M
  generalize serQ ((1 - x) / (1 + x)) n = s1 at R M
  generalize piQ n = p1 at P T
  rw [ivQ_pair] at P R
  rw [ivQ_pair p1, ivQ_pair u1] at T
  rw [ivQ_pair u1, ivQ_pair s1, ivQ_pair r] at M
  rw [ivQ_pair]
  simp (maxSteps := 10000000) only [↓sx, sx, ↓ty, ↓reduceIte, Nat.reduceEqDiff, Nat.reduceBeqDiff, Nat.reduceAdd, Nat.reduceLeDiff, Nat.reduceLT, Nat.reduceMul, Nat.reduceSub, Int.reduceEq, Int.reduceBNe, Int.reduceBEq, ne_eq, not_false_eq_true, pc, ls, bs, and_true, true_and, and_self, Nat.reduceAdd, Nat.le_refl, leafP, pi]
  refine CallT.mk (t := ⟨⟩) W ?_
  simp (maxSteps := 10000000) only [↓sx, sx, ↓ty, ↓reduceIte, Nat.reduceEqDiff, Nat.reduceBeqDiff, Nat.reduceAdd, Nat.reduceLeDiff, Nat.reduceLT, Nat.reduceMul, Nat.reduceSub, Int.reduceEq, Int.reduceBNe, Int.reduceBEq, ne_eq, not_false_eq_true, pc, ls, bs, and_true, true_and, and_self, Nat.reduceAdd, Nat.le_refl, leafP, pi]
  refine CallT.mk (t := ⟨⟩) L ?_
  simp (maxSteps := 10000000) only [↓sx, sx, ↓ty, ↓reduceIte, Nat.reduceEqDiff, Nat.reduceBeqDiff, Nat.reduceAdd, Nat.reduceLeDiff, Nat.reduceLT, Nat.reduceMul, Nat.reduceSub, Int.reduceEq, Int.reduceBNe, Int.reduceBEq, ne_eq, not_false_eq_true, pc, ls, bs, and_true, true_and, and_self, Nat.reduceAdd, Nat.le_refl, leafP, pi]
  refine CallT.mk (t := ⟨⟩) P ?_
  simp (maxSteps := 10000000) only [↓sx, sx, ↓ty, ↓reduceIte, Nat.reduceEqDiff, Nat.reduceBeqDiff, Nat.reduceAdd, Nat.reduceLeDiff, Nat.reduceLT, Nat.reduceMul, Nat.reduceSub, Int.reduceEq, Int.reduceBNe, Int.reduceBEq, ne_eq, not_false_eq_true, pc, ls, bs, and_true, true_and, and_self, Nat.reduceAdd, Nat.le_refl, leafP, pi]
  refine CallT.mk (t := ⟨⟩) T ?_
  simp (maxSteps := 10000000) only [↓sx, sx, ↓ty, ↓reduceIte, Nat.reduceEqDiff, Nat.reduceBeqDiff, Nat.reduceAdd, Nat.reduceLeDiff, Nat.reduceLT, Nat.reduceMul, Nat.reduceSub, Int.reduceEq, Int.reduceBNe, Int.reduceBEq, ne_eq, not_false_eq_true, pc, ls, bs, and_true, true_and, and_self, Nat.reduceAdd, Nat.le_refl, leafP, pi]
  refine CallT.mk (t := ⟨⟩) S ?_
  simp (maxSteps := 10000000) only [↓sx, sx, ↓ty, ↓reduceIte, Nat.reduceEqDiff, Nat.reduceBeqDiff, Nat.reduceAdd, Nat.reduceLeDiff, Nat.reduceLT, Nat.reduceMul, Nat.reduceSub, Int.reduceEq, Int.reduceBNe, Int.reduceBEq, ne_eq, not_false_eq_true, pc, ls, bs, and_true, true_and, and_self, Nat.reduceAdd, Nat.le_refl, leafP, pi]
  refine CallT.mk (t := ⟨⟩) A ?_
  simp (maxSteps := 10000000) only [↓sx, sx, ↓ty, ↓reduceIte, Nat.reduceEqDiff, Nat.reduceBeqDiff, Nat.reduceAdd, Nat.reduceLeDiff, Nat.reduceLT, Nat.reduceMul, Nat.reduceSub, Int.reduceEq, Int.reduceBNe, Int.reduceBEq, ne_eq, not_false_eq_true, pc, ls, bs, and_true, true_and, and_self, Nat.reduceAdd, Nat.le_refl, leafP, pi]
  refine CallT.mk (t := ⟨⟩) D ?_
  simp (maxSteps := 10000000) only [↓sx, sx, ↓ty, ↓reduceIte, Nat.reduceEqDiff, Nat.reduceBeqDiff, Nat.reduceAdd, Nat.reduceLeDiff, Nat.reduceLT, Nat.reduceMul, Nat.reduceSub, Int.reduceEq, Int.reduceBNe, Int.reduceBEq, ne_eq, not_false_eq_true, pc, ls, bs, and_true, true_and, and_self, Nat.reduceAdd, Nat.le_refl, leafP, pi]
  refine CallT.mk (t := ⟨⟩) R ?_
  simp (maxSteps := 10000000) only [↓sx, sx, ↓ty, ↓reduceIte, Nat.reduceEqDiff, Nat.reduceBeqDiff, Nat.reduceAdd, Nat.reduceLeDiff, Nat.reduceLT, Nat.reduceMul, Nat.reduceSub, Int.reduceEq, Int.reduceBNe, Int.reduceBEq, ne_eq, not_false_eq_true, pc, ls, bs, and_true, true_and, and_self, Nat.reduceAdd, Nat.le_refl, leafP, pi]
  refine CallT.mk (t := ⟨⟩) M ?_
  simp (maxSteps := 10000000) only [↓sx, sx, ↓ty, ↓reduceIte, Nat.reduceEqDiff, Nat.reduceBeqDiff, Nat.reduceAdd, Nat.reduceLeDiff, Nat.reduceLT, Nat.reduceMul, Nat.reduceSub, Int.reduceEq, Int.reduceBNe, Int.reduceBEq, ne_eq, not_false_eq_true, pc, ls, bs, and_true, true_and, and_self, Nat.reduceAdd, Nat.le_refl, leafP, pi]
set_option maxRecDepth 100000 in
theorem aarc_q (x : Rat) (n : Nat) (hx : Sz 2 x) (hn : n ≤ 6) : Meets Tryz.prog Gd 44 [rtP x, iP (n : Int)] (ivQ (arcQ x n)) := by
  by_cases hu : inH x = false ∧ ¬ x < 0
  · have := aarc_up x n hx hn hu.1 hu.2
    unfold arcQ
    rw [hu.1, if_neg (by simp), if_neg hu.2]
    exact this
  · refine meets_of_vc (Y := {}) (N := 30) (rs := [.cell 4 25]) mix tk gd Tryz.func44 rfl (by kernel_rfl) rfl rfl (by simp) (by kernel_rfl) ?_
    have W := awithin_q x (1 / 2) (hx.mono (by omega)) (c12.2.mono (by omega))
    rw [inH_of, c12.1] at W
    unfold arcQ
    cases h : inH x with
    | true =>
      have R := ser_n x 2 n hx (by omega) (by omega) hn
      rw [h] at W
      rw [if_pos rfl]
      generalize serQ x n = r at R ⊢
      rw [ivQ_pair] at R ⊢
      simp (maxSteps := 10000000) only [↓sx, sx, ↓ty, ↓reduceIte, Nat.reduceEqDiff, Nat.reduceBeqDiff, Nat.reduceAdd, Nat.reduceLeDiff, Nat.reduceLT, Nat.reduceMul, Nat.reduceSub, Int.reduceEq, Int.reduceBNe, Int.reduceBEq, ne_eq, not_false_eq_true, pc, ls, bs, and_true, true_and, and_self, Nat.reduceAdd, Nat.le_refl, leafP, pi]
      refine CallT.mk (t := ⟨⟩) W ?_
      simp (maxSteps := 10000000) only [↓sx, sx, ↓ty, ↓reduceIte, Nat.reduceEqDiff, Nat.reduceBeqDiff, Nat.reduceAdd, Nat.reduceLeDiff, Nat.reduceLT, Nat.reduceMul, Nat.reduceSub, Int.reduceEq, Int.reduceBNe, Int.reduceBEq, ne_eq, not_false_eq_true, pc, ls, bs, and_true, true_and, and_self, Nat.reduceAdd, Nat.le_refl, leafP, pi]
      refine CallT.mk (t := ⟨⟩) R ?_
      simp (maxSteps := 10000000) only [↓sx, sx, ↓ty, ↓reduceIte, Nat.reduceEqDiff, Nat.reduceBeqDiff, Nat.reduceAdd, Nat.reduceLeDiff, Nat.reduceLT, Nat.reduceMul, Nat.reduceSub, Int.reduceEq, Int.reduceBNe, Int.reduceBEq, ne_eq, not_false_eq_true, pc, ls, bs, and_true, true_and, and_self, Nat.reduceAdd, Nat.le_refl, leafP, pi]
    | false =>
      have h0 : x < 0 := Classical.not_not.1 fun h1 => hu ⟨h, h1⟩
      obtain ⟨g1, g2⟩ := inH_big h h0
      have L := aless_q x 0 (hx.mono (by omega)) (Sz0 _ (by omega))
      rw [decide_eq_true h0, c0.1] at L
      have S := asub_q 0 x (Sz0 _ (by omega)) (hx.mono (by omega))
      rw [c0.1] at S
      have U := aarc_up (0 - x) n (neg_sz2 hx) hn g1 g2
      have T := atimes_q (arcU (0 - x) n) (-1) ((arcU_sz (neg_sz2 hx) n hn).mono (by omega)) (cm1.2.mono (by omega))
      rw [cm1.1] at T
      rw [h] at W
      rw [if_neg (by simp), if_pos h0]
      generalize timQ (arcU (0 - x) n) (-1) = r at T ⊢
      generalize arcU (0 - x) n = s at U T
      rw [ivQ_pair] at U
      rw [ivQ_pair s, ivQ_pair r] at T
      rw [ivQ_pair]
      simp (maxSteps := 10000000) only [↓sx, sx, ↓ty, ↓reduceIte, Nat.reduceEqDiff, Nat.reduceBeqDiff, Nat.reduceAdd, Nat.reduceLeDiff, Nat.reduceLT, Nat.reduceMul, Nat.reduceSub, Int.reduceEq, Int.reduceBNe, Int.reduceBEq, ne_eq, not_false_eq_true, pc, ls, bs, and_true, true_and, and_self, Nat.reduceAdd, Nat.le_refl, leafP, pi]
      refine CallT.mk (t := ⟨⟩) W ?_
      simp (maxSteps := 10000000) only [↓sx, sx, ↓ty, ↓reduceIte, Nat.reduceEqDiff, Nat.reduceBeqDiff, Nat.reduceAdd, Nat.reduceLeDiff, Nat.reduceLT, Nat.reduceMul, Nat.reduceSub, Int.reduceEq, Int.reduceBNe, Int.reduceBEq, ne_eq, not_false_eq_true, pc, ls, bs, and_true, true_and, and_self, Nat.reduceAdd, Nat.le_refl, leafP, pi]
      refine CallT.mk (t := ⟨⟩) L ?_
      simp (maxSteps := 10000000) only [↓sx, sx, ↓ty, ↓reduceIte, Nat.reduceEqDiff, Nat.reduceBeqDiff, Nat.reduceAdd, Nat.reduceLeDiff, Nat.reduceLT, Nat.reduceMul, Nat.reduceSub, Int.reduceEq, Int.reduceBNe, Int.reduceBEq, ne_eq, not_false_eq_true, pc, ls, bs, and_true, true_and, and_self, Nat.reduceAdd, Nat.le_refl, leafP, pi]
      refine CallT.mk (t := ⟨⟩) S ?_
      simp (maxSteps := 10000000) only [↓sx, sx, ↓ty, ↓reduceIte, Nat.reduceEqDiff, Nat.reduceBeqDiff, Nat.reduceAdd, Nat.reduceLeDiff, Nat.reduceLT, Nat.reduceMul, Nat.reduceSub, Int.reduceEq, Int.reduceBNe, Int.reduceBEq, ne_eq, not_false_eq_true, pc, ls, bs, and_true, true_and, and_self, Nat.reduceAdd, Nat.le_refl, leafP, pi]
      refine CallT.mk (t := ⟨⟩) U ?_
      simp (maxSteps := 10000000) only [↓sx, sx, ↓ty, ↓reduceIte, Nat.reduceEqDiff, Nat.reduceBeqDiff, Nat.reduceAdd, Nat.reduceLeDiff, Nat.reduceLT, Nat.reduceMul, Nat.reduceSub, Int.reduceEq, Int.reduceBNe, Int.reduceBEq, ne_eq, not_false_eq_true, pc, ls, bs, and_true, true_and, and_self, Nat.reduceAdd, Nat.le_refl, leafP, pi]
      refine CallT.mk (t := ⟨⟩) T ?_
      simp (maxSteps := 10000000) only [↓sx, sx, ↓ty, ↓reduceIte, Nat.reduceEqDiff, Nat.reduceBeqDiff, Nat.reduceAdd, Nat.reduceLeDiff, Nat.reduceLT, Nat.reduceMul, Nat.reduceSub, Int.reduceEq, Int.reduceBNe, Int.reduceBEq, ne_eq, not_false_eq_true, pc, ls, bs, and_true, true_and, and_self, Nat.reduceAdd, Nat.le_refl, leafP, pi]
set_option maxRecDepth 100000 in
theorem adeg_q (x : Rat) (n : Nat) (hx : Sz 2 x) (h1 : 1 ≤ n) (hn : n ≤ 6) : Meets Tryz.prog Gd 47 [rtP x, iP (n : Int)] (ivQ (degQ x n)) := by
  refine meets_of_vc (Y := {}) (N := 18) (rs := [.cell 4 25]) mix tk gd Tryz.func47 rfl (by kernel_rfl) rfl rfl (by simp) (by kernel_rfl) ?_
  have A := aarc_q x n hx hn
  have T := atimes_q (arcQ x n) 360 ((arcQ_sz hx n hn).mono (by omega)) (c360.2.mono (by omega))
  rw [c360.1] at T
  have P := api_q n hn
  have D := aidiv_q (timQ (arcQ x n) 360) (piQ n) (timQ_le _ _) (piQ_le n) (by have := piQ_pos n h1 hn; grind) ((timQ_sz (arcQ_sz hx n hn) c360.2).mono (by omega)) ((piQ_sz n hn).mono (by omega))
  unfold degQ
  generalize overQ (timQ (arcQ x n) 360) (piQ n) = r at D ⊢
  generalize timQ (arcQ x n) 360 = u at T D
  generalize arcQ x n = a at A T
  generalize piQ n = p at P D
  rw [ivQ_pair] at A P
  rw [ivQ_pair a, ivQ_pair u] at T
  rw [ivQ_pair u, ivQ_pair p, ivQ_pair r] at D
  rw [ivQ_pair]
  simp (maxSteps := 10000000) only [↓sx, sx, ↓ty, ↓reduceIte, Nat.reduceEqDiff, Nat.reduceBeqDiff, Nat.reduceAdd, Nat.reduceLeDiff, Nat.reduceLT, Nat.reduceMul, Nat.reduceSub, Int.reduceEq, Int.reduceBNe, Int.reduceBEq, ne_eq, not_false_eq_true, pc, ls, bs, and_true, true_and, and_self, Nat.reduceAdd, Nat.le_refl, leafP, pi]
  refine CallT.mk (t := ⟨⟩) A ?_
  simp (maxSteps := 10000000) only [↓sx, sx, ↓ty, ↓reduceIte, Nat.reduceEqDiff, Nat.reduceBeqDiff, Nat.reduceAdd, Nat.reduceLeDiff, Nat.reduceLT, Nat.reduceMul, Nat.reduceSub, Int.reduceEq, Int.reduceBNe, Int.reduceBEq, ne_eq, not_false_eq_true, pc, ls, bs, and_true, true_and, and_self, Nat.reduceAdd, Nat.le_refl, leafP, pi]
  refine CallT.mk (t := ⟨⟩) T ?_
  simp (maxSteps := 10000000) only [↓sx, sx, ↓ty, ↓reduceIte, Nat.reduceEqDiff, Nat.reduceBeqDiff, Nat.reduceAdd, Nat.reduceLeDiff, Nat.reduceLT, Nat.reduceMul, Nat.reduceSub, Int.reduceEq, Int.reduceBNe, Int.reduceBEq, ne_eq, not_false_eq_true, pc, ls, bs, and_true, true_and, and_self, Nat.reduceAdd, Nat.le_refl, leafP, pi]
  refine CallT.mk (t := ⟨⟩) P ?_
  simp (maxSteps := 10000000) only [↓sx, sx, ↓ty, ↓reduceIte, Nat.reduceEqDiff, Nat.reduceBeqDiff, Nat.reduceAdd, Nat.reduceLeDiff, Nat.reduceLT, Nat.reduceMul, Nat.reduceSub, Int.reduceEq, Int.reduceBNe, Int.reduceBEq, ne_eq, not_false_eq_true, pc, ls, bs, and_true, true_and, and_self, Nat.reduceAdd, Nat.le_refl, leafP, pi]
  refine CallT.mk (t := ⟨⟩) D ?_
  simp (maxSteps := 10000000) only [↓sx, sx, ↓ty, ↓reduceIte, Nat.reduceEqDiff, Nat.reduceBeqDiff, Nat.reduceAdd, Nat.reduceLeDiff, Nat.reduceLT, Nat.reduceMul, Nat.reduceSub, Int.reduceEq, Int.reduceBNe, Int.reduceBEq, ne_eq, not_false_eq_true, pc, ls, bs, and_true, true_and, and_self, Nat.reduceAdd, Nat.le_refl, leafP, pi]
end Go.Proofs.YtolehnkoocnenaaGreatDoor.S
namespace Gb
open Go Go.RowKit Go.Sx
def apiP (n : Int) : PV := if cntE n = 0 then .tup [ivQ (piQ n.toNat), iP 0] else .tup [ivP [] [], iP (cntE n)]
def aarcP (x : List UInt8) (n : Int) : PV := if askE x n = 0 then .tup [ivQ (arcQ (ratOf x) n.toNat), iP 0] else .tup [ivP [] [], iP (askE x n)]
def adegP (x : List UInt8) (n : Int) : PV := if askE x n = 0 then .tup [ivQ (degQ (ratOf x) n.toNat), iP 0] else .tup [ivP [] [], iP (askE x n)]
theorem cntE_ok {n : Int} (h : cntE n = 0) : 1 ≤ n ∧ n ≤ 24 := by
  unfold cntE at h
  split at h <;> omega
theorem askE_ok {x : List UInt8} {n : Int} (h : askE x n = 0) : isRat x = true ∧ inU (ratOf x) = true ∧ 1 ≤ n ∧ n ≤ 24 := by
  unfold askE at h
  split at h
  · rename_i h1
    obtain ⟨h2, h3⟩ := achk_ok h1 x (by simp)
    exact ⟨h2, h3, cntE_ok h⟩
  · rename_i h1; exact absurd h h1
def stepF (d : Rat) (n : Nat) (o : Rat × Rat) : Option (Rat × Rat) :=
  if d < (degQ ((o.1 + o.2) * (1 / 2)) n).2 then (if d < (degQ ((o.1 + o.2) * (1 / 2)) n).1 then some (o.1, (o.1 + o.2) * (1 / 2)) else none) else some ((o.1 + o.2) * (1 / 2), o.2)
def findL (d : Rat) (n : Nat) : Nat → Rat × Rat → Rat × Rat
  | 0, o => o
  | k + 1, o => match stepF d n o with | some o' => findL d n k o' | none => o
def GridI (i : Nat) (o : Rat × Rat) : Prop := ∃ a : Int, -(2 ^ i : Int) ≤ a ∧ a + 2 ≤ 2 ^ i ∧ o.1 = (a : Rat) / ((2 ^ i : Int) : Rat) ∧ o.2 = ((a + 2 : Int) : Rat) / ((2 ^ i : Int) : Rat)
theorem grid0 : GridI 0 (-1, 1) := ⟨-1, by decide, by decide, by decide +kernel, by decide +kernel⟩
theorem pow_ne (i : Nat) : (((2 : Int) ^ i : Int) : Rat) ≠ 0 := by
  intro h
  have : ((2 : Int) ^ i) = 0 := Rat.intCast_inj.1 (h.trans (by simp))
  have h2 : (0 : Int) < 2 ^ i := Int.pow_pos (by omega)
  omega
theorem grid_mid {i : Nat} {o : Rat × Rat} {a : Int} (h1 : o.1 = (a : Rat) / ((2 ^ i : Int) : Rat)) (h2 : o.2 = ((a + 2 : Int) : Rat) / ((2 ^ i : Int) : Rat)) : (o.1 + o.2) * (1 / 2) = ((a + 1 : Int) : Rat) / ((2 ^ i : Int) : Rat) := by
  rw [h1, h2]
  have := pow_ne i
  generalize ((2 ^ i : Int) : Rat) = D at *
  have e1 : ((a + 2 : Int) : Rat) = (a : Rat) + 2 := by simp
  have e2 : ((a + 1 : Int) : Rat) = (a : Rat) + 1 := by simp
  rw [e1, e2]
  grind
theorem grid_dbl (a : Int) (i : Nat) : (a : Rat) / ((2 ^ i : Int) : Rat) = ((2 * a : Int) : Rat) / ((2 ^ (i + 1) : Int) : Rat) := by
  have h1 := pow_ne i
  have e : (((2 : Int) ^ (i + 1) : Int) : Rat) = 2 * ((2 ^ i : Int) : Rat) := by rw [Int.pow_succ, Int.mul_comm, Rat.intCast_mul]; rfl
  have e2 : ((2 * a : Int) : Rat) = 2 * (a : Rat) := by rw [Rat.intCast_mul]; rfl
  rw [e, e2]
  generalize ((2 ^ i : Int) : Rat) = D at *
  grind
theorem grid_hi {i : Nat} {o : Rat × Rat} (h : GridI i o) : GridI (i + 1) ((o.1 + o.2) * (1 / 2), o.2) := by
  obtain ⟨a, h1, h2, h3, h4⟩ := h
  refine ⟨2 * (a + 1), by rw [Int.pow_succ]; omega, by rw [Int.pow_succ]; omega, ?_, ?_⟩
  · dsimp only; rw [grid_mid h3 h4, grid_dbl]
  · dsimp only; rw [h4, grid_dbl]
    congr 2
    omega
theorem grid_lo {i : Nat} {o : Rat × Rat} (h : GridI i o) : GridI (i + 1) (o.1, (o.1 + o.2) * (1 / 2)) := by
  obtain ⟨a, h1, h2, h3, h4⟩ := h
  refine ⟨2 * a, by rw [Int.pow_succ]; omega, by rw [Int.pow_succ]; omega, ?_, ?_⟩
  · dsimp only; rw [h3, grid_dbl]
  · dsimp only; rw [grid_mid h3 h4, grid_dbl]
    congr 2
    omega
theorem grid_sz1 {i : Nat} {a : Int} (hi : i ≤ 24) (h1 : -(2 ^ i : Int) ≤ a) (h2 : a ≤ 2 ^ i) : Sz 2 ((a : Rat) / ((2 ^ i : Int) : Rat)) := by
  have h3 : ((2 : Int) ^ i) ≤ 2 ^ 24 := by have := Nat.pow_le_pow_right (n := 2) (by omega) hi; exact_mod_cast this
  have h4 : (0 : Int) < 2 ^ i := Int.pow_pos (by omega)
  exact Sz.divT (k := 1) (m := 1) (Sz.int (Nat.le_trans (Lw_le (k := 1) (by omega)) (by omega)) (by omega)) (Sz.int (Nat.le_trans (Lw_le (k := 1) (by omega)) (by omega)) (by omega)) (by omega)
theorem grid_sz {i : Nat} {o : Rat × Rat} (hi : i ≤ 24) (h : GridI i o) : SzI 2 o ∧ Sz 2 ((o.1 + o.2) * (1 / 2)) := by
  obtain ⟨a, h1, h2, h3, h4⟩ := h
  refine ⟨⟨?_, ?_⟩, ?_⟩
  · rw [h3]; exact grid_sz1 hi h1 (by omega)
  · rw [h4]; exact grid_sz1 hi (by omega) h2
  · rw [grid_mid h3 h4]; exact grid_sz1 hi (by omega) (by omega)
def in90 (x : Rat) : Bool := !decide (90 < x) && !decide (x < 0 - 90)
def finE (d : List UInt8) (n k : Int) : Int := if isRat d then (if cntE n = 0 ∧ in90 (ratOf d) = true ∧ 0 ≤ k ∧ k ≤ 24 then 0 else 2) else 1
def afindP (d : List UInt8) (n k : Int) : PV := if finE d n k = 0 then .tup [ivQ (findL (ratOf d) n.toNat k.toNat (-1, 1)), iP 0] else .tup [ivP [] [], iP (finE d n k)]
theorem finE_ok {d : List UInt8} {n k : Int} (h : finE d n k = 0) : isRat d = true ∧ 1 ≤ n ∧ n ≤ 24 ∧ in90 (ratOf d) = true ∧ 0 ≤ k ∧ k ≤ 24 := by
  unfold finE at h
  split at h
  · rename_i h1
    split at h
    · rename_i h2
      obtain ⟨h3, h4, h5, h6⟩ := h2
      obtain ⟨h7, h8⟩ := cntE_ok h3
      exact ⟨h1, h7, h8, h4, h5, h6⟩
    · omega
  · omega
end Gb
namespace Go.Proofs.YtolehnkoocnenaaGreatDoor.S
open Go Go.Sx Go.RowKit Gb Go.Shelf
set_option maxRecDepth 100000 in
theorem api_n (n : Int) (hn : n ≤ 6 ∨ 24 < n) : Meets Tryz.prog Gd 12 [iP n] (apiP n) := by
  refine meets_of_vc (Y := {}) (N := 13) (rs := [.cell 2 25, .tmp 3]) mix tk gd Tryz.func12 rfl (by kernel_rfl) rfl rfl (by simp) (by kernel_rfl) ?_
  unfold apiP
  simp (maxSteps := 10000000) only [↓sx, sx, ↓ty, ↓reduceIte, Nat.reduceEqDiff, Nat.reduceBeqDiff, Nat.reduceAdd, Nat.reduceLeDiff, Nat.reduceLT, Nat.reduceMul, Nat.reduceSub, Int.reduceEq, Int.reduceBNe, Int.reduceBEq, ne_eq, not_false_eq_true, pc, ls, bs, and_true, true_and, and_self, Nat.reduceAdd, Nat.le_refl, leafP, pi]
  refine CallT.mk (t := ⟨⟩) (acount_n n) ?_
  by_cases h : cntE n = 0
  · obtain ⟨h1, h2⟩ := cntE_ok h
    obtain ⟨m, rfl⟩ : ∃ m : Nat, n = (m : Int) := ⟨n.toNat, by omega⟩
    have P := api_q m (by omega)
    rw [if_pos h, h, Int.toNat_natCast]
    generalize piQ m = r at P ⊢
    rw [ivQ_pair] at P ⊢
    simp (maxSteps := 10000000) only [↓sx, sx, ↓ty, ↓reduceIte, Nat.reduceEqDiff, Nat.reduceBeqDiff, Nat.reduceAdd, Nat.reduceLeDiff, Nat.reduceLT, Nat.reduceMul, Nat.reduceSub, Int.reduceEq, Int.reduceBNe, Int.reduceBEq, ne_eq, not_false_eq_true, pc, ls, bs, and_true, true_and, and_self, Nat.reduceAdd, Nat.le_refl, leafP, pi]
    refine CallT.mk (t := ⟨⟩) P ?_
    simp (maxSteps := 10000000) only [↓sx, sx, ↓ty, ↓reduceIte, Nat.reduceEqDiff, Nat.reduceBeqDiff, Nat.reduceAdd, Nat.reduceLeDiff, Nat.reduceLT, Nat.reduceMul, Nat.reduceSub, Int.reduceEq, Int.reduceBNe, Int.reduceBEq, ne_eq, not_false_eq_true, pc, ls, bs, and_true, true_and, and_self, Nat.reduceAdd, Nat.le_refl, leafP, pi]
  · have d0 : (cntE n != 0) = true := by simp [h]
    rw [if_neg h]
    simp (maxSteps := 10000000) only [↓sx, sx, ↓ty, ↓reduceIte, Nat.reduceEqDiff, Nat.reduceBeqDiff, Nat.reduceAdd, Nat.reduceLeDiff, Nat.reduceLT, Nat.reduceMul, Nat.reduceSub, Int.reduceEq, Int.reduceBNe, Int.reduceBEq, ne_eq, not_false_eq_true, pc, ls, bs, and_true, true_and, and_self, Nat.reduceAdd, Nat.le_refl, leafP, pi, d0]
set_option maxRecDepth 100000 in
theorem aarc_n (x : List UInt8) (n : Int) (hx : x.length ≤ 9) (hn : n ≤ 6 ∨ 24 < n) : Meets Tryz.prog Gd 14 [strP x, iP n] (aarcP x n) := by
  refine meets_of_vc (Y := {}) (N := 17) (rs := [.cell 4 25, .tmp 5]) mix tk gd Tryz.func14 rfl (by kernel_rfl) rfl rfl (by simp) (by kernel_rfl) ?_
  unfold aarcP
  simp (maxSteps := 10000000) only [↓sx, sx, ↓ty, ↓reduceIte, Nat.reduceEqDiff, Nat.reduceBeqDiff, Nat.reduceAdd, Nat.reduceLeDiff, Nat.reduceLT, Nat.reduceMul, Nat.reduceSub, Int.reduceEq, Int.reduceBNe, Int.reduceBEq, ne_eq, not_false_eq_true, pc, ls, bs, and_true, true_and, and_self, Nat.reduceAdd, Nat.le_refl, leafP, pi]
  refine CallT.mk (t := ⟨⟩) (aask_n x n (by omega)) ?_
  by_cases h : askE x n = 0
  · obtain ⟨h0, hu, h1, h2⟩ := askE_ok h
    obtain ⟨m, rfl⟩ : ∃ m : Nat, n = (m : Int) := ⟨n.toNat, by omega⟩
    have P := aarc_q (ratOf x) m (Sz.of h0 (k := 1) (by omega)) (by omega)
    rw [if_pos h, h, Int.toNat_natCast]
    rw [rtP_of h0] at P
    generalize arcQ (ratOf x) m = r at P ⊢
    rw [ivQ_pair] at P ⊢
    simp (maxSteps := 10000000) only [↓sx, sx, ↓ty, ↓reduceIte, Nat.reduceEqDiff, Nat.reduceBeqDiff, Nat.reduceAdd, Nat.reduceLeDiff, Nat.reduceLT, Nat.reduceMul, Nat.reduceSub, Int.reduceEq, Int.reduceBNe, Int.reduceBEq, ne_eq, not_false_eq_true, pc, ls, bs, and_true, true_and, and_self, Nat.reduceAdd, Nat.le_refl, leafP, pi]
    refine CallT.mk (t := ⟨⟩) P ?_
    simp (maxSteps := 10000000) only [↓sx, sx, ↓ty, ↓reduceIte, Nat.reduceEqDiff, Nat.reduceBeqDiff, Nat.reduceAdd, Nat.reduceLeDiff, Nat.reduceLT, Nat.reduceMul, Nat.reduceSub, Int.reduceEq, Int.reduceBNe, Int.reduceBEq, ne_eq, not_false_eq_true, pc, ls, bs, and_true, true_and, and_self, Nat.reduceAdd, Nat.le_refl, leafP, pi]
  · have d0 : (askE x n != 0) = true := by simp [h]
    rw [if_neg h]
    simp (maxSteps := 10000000) only [↓sx, sx, ↓ty, ↓reduceIte, Nat.reduceEqDiff, Nat.reduceBeqDiff, Nat.reduceAdd, Nat.reduceLeDiff, Nat.reduceLT, Nat.reduceMul, Nat.reduceSub, Int.reduceEq, Int.reduceBNe, Int.reduceBEq, ne_eq, not_false_eq_true, pc, ls, bs, and_true, true_and, and_self, Nat.reduceAdd, Nat.le_refl, leafP, pi, d0]
set_option maxRecDepth 100000 in
theorem adeg_n (x : List UInt8) (n : Int) (hx : x.length ≤ 9) (hn : n ≤ 6 ∨ 24 < n) : Meets Tryz.prog Gd 16 [strP x, iP n] (adegP x n) := by
  refine meets_of_vc (Y := {}) (N := 17) (rs := [.cell 4 25, .tmp 5]) mix tk gd Tryz.func16 rfl (by kernel_rfl) rfl rfl (by simp) (by kernel_rfl) ?_
  unfold adegP
  simp (maxSteps := 10000000) only [↓sx, sx, ↓ty, ↓reduceIte, Nat.reduceEqDiff, Nat.reduceBeqDiff, Nat.reduceAdd, Nat.reduceLeDiff, Nat.reduceLT, Nat.reduceMul, Nat.reduceSub, Int.reduceEq, Int.reduceBNe, Int.reduceBEq, ne_eq, not_false_eq_true, pc, ls, bs, and_true, true_and, and_self, Nat.reduceAdd, Nat.le_refl, leafP, pi]
  refine CallT.mk (t := ⟨⟩) (aask_n x n (by omega)) ?_
  by_cases h : askE x n = 0
  · obtain ⟨h0, hu, h1, h2⟩ := askE_ok h
    obtain ⟨m, rfl⟩ : ∃ m : Nat, n = (m : Int) := ⟨n.toNat, by omega⟩
    have P := adeg_q (ratOf x) m (Sz.of h0 (k := 1) (by omega)) (by omega) (by omega)
    rw [if_pos h, h, Int.toNat_natCast]
    rw [rtP_of h0] at P
    generalize degQ (ratOf x) m = r at P ⊢
    rw [ivQ_pair] at P ⊢
    simp (maxSteps := 10000000) only [↓sx, sx, ↓ty, ↓reduceIte, Nat.reduceEqDiff, Nat.reduceBeqDiff, Nat.reduceAdd, Nat.reduceLeDiff, Nat.reduceLT, Nat.reduceMul, Nat.reduceSub, Int.reduceEq, Int.reduceBNe, Int.reduceBEq, ne_eq, not_false_eq_true, pc, ls, bs, and_true, true_and, and_self, Nat.reduceAdd, Nat.le_refl, leafP, pi]
    refine CallT.mk (t := ⟨⟩) P ?_
    simp (maxSteps := 10000000) only [↓sx, sx, ↓ty, ↓reduceIte, Nat.reduceEqDiff, Nat.reduceBeqDiff, Nat.reduceAdd, Nat.reduceLeDiff, Nat.reduceLT, Nat.reduceMul, Nat.reduceSub, Int.reduceEq, Int.reduceBNe, Int.reduceBEq, ne_eq, not_false_eq_true, pc, ls, bs, and_true, true_and, and_self, Nat.reduceAdd, Nat.le_refl, leafP, pi]
  · have d0 : (askE x n != 0) = true := by simp [h]
    rw [if_neg h]
    simp (maxSteps := 10000000) only [↓sx, sx, ↓ty, ↓reduceIte, Nat.reduceEqDiff, Nat.reduceBeqDiff, Nat.reduceAdd, Nat.reduceLeDiff, Nat.reduceLT, Nat.reduceMul, Nat.reduceSub, Int.reduceEq, Int.reduceBNe, Int.reduceBEq, ne_eq, not_false_eq_true, pc, ls, bs, and_true, true_and, and_self, Nat.reduceAdd, Nat.le_refl, leafP, pi, d0]
set_option maxRecDepth 100000 in
set_option maxHeartbeats 8000000 in
theorem afind_n (d : List UInt8) (n k : Int) (hd : d.length ≤ 9) (hn : n ≤ 6 ∨ 24 < n) : Meets Tryz.prog Gd 18 [strP d, iP n, iP k] (afindP d n k) := by
  refine meets_of_vc (Y := {}) (N := 65) (rs := [.cell 6 25, .tmp 7]) mix tk gd Tryz.func18 rfl (by kernel_rfl) rfl rfl (by simp) (by kernel_rfl) ?_
  unfold afindP
  simp (maxSteps := 10000000) only [↓sx, sx, ↓ty, ↓reduceIte, Nat.reduceEqDiff, Nat.reduceBeqDiff, Nat.reduceAdd, Nat.reduceLeDiff, Nat.reduceLT, Nat.reduceMul, Nat.reduceSub, Int.reduceEq, Int.reduceBNe, Int.reduceBEq, ne_eq, not_false_eq_true, pc, ls, bs, and_true, true_and, and_self, Nat.reduceAdd, Nat.le_refl, leafP, pi]
  refine CallT.mk (t := ⟨⟩) (rvalid_n d (by omega)) ?_
  cases hr : isRat d with
  | false =>
    have hf : finE d n k = 1 := by unfold finE; rw [hr]; rfl
    rw [hf, if_neg (by omega)]
    simp (maxSteps := 10000000) only [↓sx, sx, ↓ty, ↓reduceIte, Nat.reduceEqDiff, Nat.reduceBeqDiff, Nat.reduceAdd, Nat.reduceLeDiff, Nat.reduceLT, Nat.reduceMul, Nat.reduceSub, Int.reduceEq, Int.reduceBNe, Int.reduceBEq, ne_eq, not_false_eq_true, pc, ls, bs, and_true, true_and, and_self, Nat.reduceAdd, Nat.le_refl, leafP, pi]
  | true =>
    have zd : Sz 2 (ratOf d) := Sz.of hr (k := 1) (by omega)
    have hf2 : ¬ (cntE n = 0 ∧ in90 (ratOf d) = true ∧ 0 ≤ k ∧ k ≤ 24) → finE d n k = 2 := fun h => by unfold finE; rw [hr, if_pos rfl, if_neg h]
    simp (maxSteps := 10000000) only [↓sx, sx, ↓ty, ↓reduceIte, Nat.reduceEqDiff, Nat.reduceBeqDiff, Nat.reduceAdd, Nat.reduceLeDiff, Nat.reduceLT, Nat.reduceMul, Nat.reduceSub, Int.reduceEq, Int.reduceBNe, Int.reduceBEq, ne_eq, not_false_eq_true, pc, ls, bs, and_true, true_and, and_self, Nat.reduceAdd, Nat.le_refl, leafP, pi]
    refine CallT.mk (t := ⟨⟩) (acount_n n) ?_
    by_cases hc : cntE n = 0
    · obtain ⟨h1, h2⟩ := cntE_ok hc
      obtain ⟨m, rfl⟩ : ∃ m : Nat, n = (m : Int) := ⟨n.toNat, by omega⟩
      have W := awithin_q (ratOf d) 90 (zd.mono (by omega)) (c90.2.mono (by omega))
      rw [c90.1, rtP_of hr, show (!decide (90 < ratOf d) && !decide (ratOf d < 0 - 90)) = in90 (ratOf d) from rfl] at W
      rw [hc]
      simp (maxSteps := 10000000) only [↓sx, sx, ↓ty, ↓reduceIte, Nat.reduceEqDiff, Nat.reduceBeqDiff, Nat.reduceAdd, Nat.reduceLeDiff, Nat.reduceLT, Nat.reduceMul, Nat.reduceSub, Int.reduceEq, Int.reduceBNe, Int.reduceBEq, ne_eq, not_false_eq_true, pc, ls, bs, and_true, true_and, and_self, Nat.reduceAdd, Nat.le_refl, leafP, pi]
      refine CallT.mk (t := ⟨⟩) W ?_
      cases hw : in90 (ratOf d) with
      | false =>
        rw [hf2 (by simp [hw]), if_neg (by omega)]
        simp (maxSteps := 10000000) only [↓sx, sx, ↓ty, ↓reduceIte, Nat.reduceEqDiff, Nat.reduceBeqDiff, Nat.reduceAdd, Nat.reduceLeDiff, Nat.reduceLT, Nat.reduceMul, Nat.reduceSub, Int.reduceEq, Int.reduceBNe, Int.reduceBEq, ne_eq, not_false_eq_true, pc, ls, bs, and_true, true_and, and_self, Nat.reduceAdd, Nat.le_refl, leafP, pi]
      | true =>
        by_cases hk0 : k < 0
        · have e0 : decide (k < 0) = true := decide_eq_true hk0
          rw [hf2 (by omega), if_neg (by omega)]
          simp (maxSteps := 10000000) only [↓sx, sx, ↓ty, ↓reduceIte, Nat.reduceEqDiff, Nat.reduceBeqDiff, Nat.reduceAdd, Nat.reduceLeDiff, Nat.reduceLT, Nat.reduceMul, Nat.reduceSub, Int.reduceEq, Int.reduceBNe, Int.reduceBEq, ne_eq, not_false_eq_true, pc, ls, bs, and_true, true_and, and_self, Nat.reduceAdd, Nat.le_refl, leafP, pi, e0]
        · have e0 : decide (k < 0) = false := decide_eq_false hk0
          by_cases hk1 : 24 < k
          · have e1 : decide (24 < k) = true := decide_eq_true hk1
            rw [hf2 (by omega), if_neg (by omega)]
            simp (maxSteps := 10000000) only [↓sx, sx, ↓ty, ↓reduceIte, Nat.reduceEqDiff, Nat.reduceBeqDiff, Nat.reduceAdd, Nat.reduceLeDiff, Nat.reduceLT, Nat.reduceMul, Nat.reduceSub, Int.reduceEq, Int.reduceBNe, Int.reduceBEq, ne_eq, not_false_eq_true, pc, ls, bs, and_true, true_and, and_self, Nat.reduceAdd, Nat.le_refl, leafP, pi, e0, e1]
          · have e1 : decide (24 < k) = false := decide_eq_false hk1
            have hf : finE d (m : Int) k = 0 := by unfold finE; rw [hr, if_pos rfl, if_pos ⟨hc, hw, by omega, by omega⟩]
            rw [hf, if_pos rfl]
            obtain ⟨K, rfl⟩ : ∃ K : Nat, k = (K : Int) := ⟨k.toNat, by omega⟩
            rw [Int.toNat_natCast, Int.toNat_natCast]
            have e90 : ivQ (findL (ratOf d) m K (-1, 1)) = ivP (rT (findL (ratOf d) m K (-1, 1)).1) (rT (findL (ratOf d) m K (-1, 1)).2) := rfl
            rw [e90]
            obtain ⟨x, hx⟩ : ∃ x, x = ratOf d := ⟨_, rfl⟩
            have hdx : d = rT x := by rw [hx, rT_ratOf hr]
            rw [← hx] at zd ⊢
            rw [hdx]
            clear e90 hf hf2 hw W hr hd hx
            simp (maxSteps := 10000000) only [↓sx, sx, ↓ty, ↓reduceIte, Nat.reduceEqDiff, Nat.reduceBeqDiff, Nat.reduceAdd, Nat.reduceLeDiff, Nat.reduceLT, Nat.reduceMul, Nat.reduceSub, Int.reduceEq, Int.reduceBNe, Int.reduceBEq, ne_eq, not_false_eq_true, pc, ls, bs, and_true, true_and, and_self, Nat.reduceAdd, Nat.le_refl, leafP, pi, e0, e1]
            refine loopK_of (fun s : Nat × (Rat × Rat) => [(0, .p (rtP x)), (1, .p (iP m)), (6, .box 6 0), (7, .p (iP 0)), (8, .box 8 0), (35, .p (.val (.int .i64 (K : Nat)))), (36, .p (.val (.int .i64 (s.1 : Nat))))]) (fun s => [(6, (25, [strP [], strP []])), (8, (25, [rtP s.2.1, rtP s.2.2]))]) (fun _ => []) (fun s => s.1 ≤ K ∧ GridI s.1 s.2 ∧ findL x m (K - s.1) s.2 = findL x m K (-1, 1)) (fun s => K - s.1) (0, (-1, 1)) ⟨Nat.zero_le _, grid0, rfl⟩ ?_ ?_
            · simp (maxSteps := 10000000) only [isE_nil, is_cons, bo_p, bo_box, bo_orow, bo_rowp, any_cons', all_cons', all_nil', Bool.true_or, Bool.or_true, ↓sx, sx, ↓reduceIte, Nat.reduceEqDiff, Nat.reduceBeqDiff, cm1.1, c1.1]
              exact ⟨rfl, rfl, rfl, rfl, rfl⟩
            · rintro ⟨i, o⟩ ⟨hi, hg, hv⟩
              dsimp only at hi hg hv ⊢
              by_cases hil : i < K
              · have e2 : decide ((i : Int) < (K : Int)) = true := decide_eq_true (by omega)
                obtain ⟨⟨so1, so2⟩, sm⟩ := grid_sz (by omega) hg
                have A := aadd_q o.1 o.2 (so1.mono (by omega)) (so2.mono (by omega))
                have M := amul_q (o.1 + o.2) (1 / 2) ((so1.add so2).mono (by omega)) (c12.2.mono (by omega))
                rw [c12.1] at M
                have D := adeg_q ((o.1 + o.2) * (1 / 2)) m sm (by omega) (by omega)
                have zq := degQ_sz sm m (by omega)
                have hst : findL x m (K - i) o = match stepF x m o with | some o' => findL x m (K - (i + 1)) o' | none => o := by rw [show K - i = (K - (i + 1)) + 1 by omega]; rfl
                have ghi := grid_hi hg
                have glo := grid_lo hg
                unfold stepF at hst
                generalize (o.1 + o.2) * (1 / 2) = mid at *
                generalize degQ mid m = q at *
                rw [ivQ_pair] at D
                have L1 := aless_q x q.2 (zd.mono (by omega)) (zq.2.mono (by omega))
                have L2 := aless_q x q.1 (zd.mono (by omega)) (zq.1.mono (by omega))
                simp (maxSteps := 10000000) only [↓sx, sx, ↓ty, ↓reduceIte, Nat.reduceEqDiff, Nat.reduceBeqDiff, Nat.reduceAdd, Nat.reduceLeDiff, Nat.reduceLT, Nat.reduceMul, Nat.reduceSub, Int.reduceEq, Int.reduceBNe, Int.reduceBEq, ne_eq, not_false_eq_true, pc, ls, bs, and_true, true_and, and_self, Nat.reduceAdd, Nat.le_refl, leafP, pi, e2]
                refine CallT.mk (t := ⟨⟩) A ?_
                simp (maxSteps := 10000000) only [↓sx, sx, ↓ty, ↓reduceIte, Nat.reduceEqDiff, Nat.reduceBeqDiff, Nat.reduceAdd, Nat.reduceLeDiff, Nat.reduceLT, Nat.reduceMul, Nat.reduceSub, Int.reduceEq, Int.reduceBNe, Int.reduceBEq, ne_eq, not_false_eq_true, pc, ls, bs, and_true, true_and, and_self, Nat.reduceAdd, Nat.le_refl, leafP, pi]
                refine CallT.mk (t := ⟨⟩) M ?_
                simp (maxSteps := 10000000) only [↓sx, sx, ↓ty, ↓reduceIte, Nat.reduceEqDiff, Nat.reduceBeqDiff, Nat.reduceAdd, Nat.reduceLeDiff, Nat.reduceLT, Nat.reduceMul, Nat.reduceSub, Int.reduceEq, Int.reduceBNe, Int.reduceBEq, ne_eq, not_false_eq_true, pc, ls, bs, and_true, true_and, and_self, Nat.reduceAdd, Nat.le_refl, leafP, pi]
                refine CallT.mk (t := ⟨⟩) D ?_
                simp (maxSteps := 10000000) only [↓sx, sx, ↓ty, ↓reduceIte, Nat.reduceEqDiff, Nat.reduceBeqDiff, Nat.reduceAdd, Nat.reduceLeDiff, Nat.reduceLT, Nat.reduceMul, Nat.reduceSub, Int.reduceEq, Int.reduceBNe, Int.reduceBEq, ne_eq, not_false_eq_true, pc, ls, bs, and_true, true_and, and_self, Nat.reduceAdd, Nat.le_refl, leafP, pi]
                refine CallT.mk (t := ⟨⟩) L1 ?_
                by_cases hq : x < q.2
                · rw [if_pos hq] at hst
                  rw [decide_eq_true hq]
                  simp (maxSteps := 10000000) only [↓sx, sx, ↓ty, ↓reduceIte, Nat.reduceEqDiff, Nat.reduceBeqDiff, Nat.reduceAdd, Nat.reduceLeDiff, Nat.reduceLT, Nat.reduceMul, Nat.reduceSub, Int.reduceEq, Int.reduceBNe, Int.reduceBEq, ne_eq, not_false_eq_true, pc, ls, bs, and_true, true_and, and_self, Nat.reduceAdd, Nat.le_refl, leafP, pi]
                  refine CallT.mk (t := ⟨⟩) L2 ?_
                  by_cases hq1 : x < q.1
                  · rw [if_pos hq1] at hst
                    rw [decide_eq_true hq1]
                    simp (maxSteps := 10000000) only [↓sx, sx, ↓ty, ↓reduceIte, Nat.reduceEqDiff, Nat.reduceBeqDiff, Nat.reduceAdd, Nat.reduceLeDiff, Nat.reduceLT, Nat.reduceMul, Nat.reduceSub, Int.reduceEq, Int.reduceBNe, Int.reduceBEq, ne_eq, not_false_eq_true, pc, ls, bs, and_true, true_and, and_self, Nat.reduceAdd, Nat.le_refl, leafP, pi]
                    refine NextK.mk (i + 1, (o.1, mid)) (by dsimp only; omega) ⟨by dsimp only; omega, glo, by rw [← hv, hst]⟩ ?_
                    simp (maxSteps := 10000000) only [isE_nil, is_cons, bo_p, bo_box, bo_orow, bo_rowp, any_cons', all_cons', all_nil', Bool.true_or, Bool.or_true, ↓sx, sx, ↓reduceIte, Nat.reduceEqDiff, Nat.reduceBeqDiff, pi]
                    rw [i64_id (by omega) (by omega)]
                    exact ⟨rfl, rfl, rfl, rfl⟩
                  · rw [if_neg hq1] at hst
                    rw [decide_eq_false hq1]
                    rw [← hv, hst]
                    simp (maxSteps := 10000000) only [↓sx, sx, ↓ty, ↓reduceIte, Nat.reduceEqDiff, Nat.reduceBeqDiff, Nat.reduceAdd, Nat.reduceLeDiff, Nat.reduceLT, Nat.reduceMul, Nat.reduceSub, Int.reduceEq, Int.reduceBNe, Int.reduceBEq, ne_eq, not_false_eq_true, pc, ls, bs, and_true, true_and, and_self, Nat.reduceAdd, Nat.le_refl, leafP, pi]
                · rw [if_neg hq] at hst
                  rw [decide_eq_false hq]
                  simp (maxSteps := 10000000) only [↓sx, sx, ↓ty, ↓reduceIte, Nat.reduceEqDiff, Nat.reduceBeqDiff, Nat.reduceAdd, Nat.reduceLeDiff, Nat.reduceLT, Nat.reduceMul, Nat.reduceSub, Int.reduceEq, Int.reduceBNe, Int.reduceBEq, ne_eq, not_false_eq_true, pc, ls, bs, and_true, true_and, and_self, Nat.reduceAdd, Nat.le_refl, leafP, pi]
                  refine NextK.mk (i + 1, (mid, o.2)) (by dsimp only; omega) ⟨by dsimp only; omega, ghi, by rw [← hv, hst]⟩ ?_
                  simp (maxSteps := 10000000) only [isE_nil, is_cons, bo_p, bo_box, bo_orow, bo_rowp, any_cons', all_cons', all_nil', Bool.true_or, Bool.or_true, ↓sx, sx, ↓reduceIte, Nat.reduceEqDiff, Nat.reduceBeqDiff, pi]
                  rw [i64_id (by omega) (by omega)]
                  exact ⟨rfl, rfl, rfl, rfl⟩
              · obtain rfl : i = K := by omega
                have e2 : decide ((i : Int) < (i : Int)) = false := decide_eq_false (by omega)
                rw [Nat.sub_self] at hv
                rw [← hv]
                simp (maxSteps := 10000000) only [↓sx, sx, ↓ty, ↓reduceIte, Nat.reduceEqDiff, Nat.reduceBeqDiff, Nat.reduceAdd, Nat.reduceLeDiff, Nat.reduceLT, Nat.reduceMul, Nat.reduceSub, Int.reduceEq, Int.reduceBNe, Int.reduceBEq, ne_eq, not_false_eq_true, pc, ls, bs, and_true, true_and, and_self, Nat.reduceAdd, Nat.le_refl, leafP, pi, e2]
                rfl
    · have d0 : (cntE n != 0) = true := by simp [hc]
      rw [hf2 (by simp [hc]), if_neg (by omega)]
      simp (maxSteps := 10000000) only [↓sx, sx, ↓ty, ↓reduceIte, Nat.reduceEqDiff, Nat.reduceBeqDiff, Nat.reduceAdd, Nat.reduceLeDiff, Nat.reduceLT, Nat.reduceMul, Nat.reduceSub, Int.reduceEq, Int.reduceBNe, Int.reduceBEq, ne_eq, not_false_eq_true, pc, ls, bs, and_true, true_and, and_self, Nat.reduceAdd, Nat.le_refl, leafP, pi, d0]
end Go.Proofs.YtolehnkoocnenaaGreatDoor.S
namespace Gb
open Go Go.RowKit Go.Sx
end Gb
namespace Go.Proofs.YtolehnkoocnenaaGreatDoor.S
open Go Go.Sx Go.RowKit Gb Go.Shelf
end Go.Proofs.YtolehnkoocnenaaGreatDoor.S
namespace Gb
open Go Go.RowKit Go.Sx
end Gb
namespace Go.Proofs.YtolehnkoocnenaaGreatDoor.S
open Go Go.Sx Go.RowKit Gb Go.Shelf
end Go.Proofs.YtolehnkoocnenaaGreatDoor.S
namespace Gb
open Go Go.RowKit Go.Sx
end Gb
namespace Go.Proofs.YtolehnkoocnenaaGreatDoor.S
open Go Go.Sx Go.RowKit Gb Go.Shelf
end Go.Proofs.YtolehnkoocnenaaGreatDoor.S
