/- A part of a proof; the last text of this claim says of what. -/
import Derived.Test.YthhefojkkgjcfaaGreatDoorV26
import Derived.MapKept
import Derived.Carry
import Derived.Lib.Walk
import Derived.WalkKit
import Derived.BigCall
import Derived.BigGuard
import Derived.Below
import Derived.Lib.Repeat
set_option linter.unusedVariables false
set_option linter.unusedSimpArgs false
set_option linter.unusedSectionVars false
namespace Gb
open Go Go.RowKit Go.Proofs.YthhefojkkgjcfaaGreatDoor.T
def valW (zs : List W9) : Nat := zs.foldr (fun x v => x.val + 1000000000 * v) 0
theorem valW_nil : valW [] = 0 := rfl
theorem valW_cons (x : W9) (zs : List W9) : valW (x :: zs) = x.val + 1000000000 * valW zs := rfl
theorem valW_drop (zs : List W9) (i : Nat) (hi : i < zs.length) : valW (zs.drop i) = (zs[i]?.getD 0).val + 1000000000 * valW (zs.drop (i + 1)) := by
  rw [List.drop_eq_getElem_cons hi, valW_cons, List.getElem?_eq_getElem hi]; rfl
theorem natOf_zeros (n : Nat) : natOf (List.replicate n 48) = 0 := by
  induction n with
  | zero => rfl
  | succ n ih => rw [List.replicate_succ', natOf_snoc, ih]; rfl
theorem piece_natOf (len : Nat) (x : Nat × W9) : natOf (piece len x) = x.2.val := by
  unfold piece
  split
  · rw [natOf_append, natOf_zeros, natOf_dec]; omega
  · rw [List.nil_append, natOf_dec]
theorem piece_isD (len : Nat) (x : Nat × W9) : ∀ c ∈ piece len x, isD c = true := by
  intro c hc
  unfold piece at hc
  rcases List.mem_append.1 hc with h | h
  · split at h
    · rw [List.mem_replicate] at h; rw [h.2]; decide
    · cases h
  · exact dec_isD _ c h
theorem piece_nine (len : Nat) (x : Nat × W9) (h : x.1 + 1 < len) : (piece len x).length = 9 := by
  have := nDigits_nine x.2
  unfold piece
  rw [if_pos h, List.length_append, List.length_replicate, Lib.decDigits_length]; omega
theorem txt_val (zs : List W9) : ∀ k, k ≤ zs.length → natOf (txt zs.length (upto (bk zs zs.length) k)) = valW (zs.drop (zs.length - k)) := by
  intro k
  induction k with
  | zero => intro _; rw [Nat.sub_zero, List.drop_length]; rfl
  | succ k ih =>
    intro hk
    have h1 := ih (by omega)
    have hd := valW_drop zs (zs.length - (k + 1)) (by omega)
    rw [show zs.length - (k + 1) + 1 = zs.length - k by omega] at hd
    rw [upto_succ, txt_snoc, natOf_append, h1, hd, piece_natOf]
    have hb : (bk zs zs.length k).2.val = (zs[zs.length - (k + 1)]?.getD 0).val := by unfold bk; rw [show zs.length - 1 - k = zs.length - (k + 1) by omega]
    rw [hb]
    by_cases h0 : k = 0
    · subst h0
      rw [Nat.sub_zero, List.drop_length, valW_nil]; omega
    · rw [piece_nine _ _ (by unfold bk; show zs.length - 1 - k + 1 < _; omega)]
      omega
theorem txt_isD (zs : List W9) (pre : List (Nat × W9)) : ∀ c ∈ txt zs.length pre, isD c = true := by
  intro c hc
  unfold txt at hc
  obtain ⟨x, _, hx⟩ := List.mem_flatMap.1 hc
  exact piece_isD _ _ c hx
theorem txt_head (zs : List W9) (h0 : zs ≠ []) (ht : (zs[zs.length - 1]?.getD 0).val ≠ 0) : ∀ k, (txt zs.length (upto (bk zs zs.length) (k + 1))).head? = (Lib.decDigits (zs[zs.length - 1]?.getD 0).val).head? := by
  have hp := List.length_pos_iff.2 h0
  intro k
  induction k with
  | zero =>
    rw [upto_succ, txt_snoc]
    have : piece zs.length (bk zs zs.length 0) = Lib.decDigits (zs[zs.length - 1]?.getD 0).val := by
      unfold piece bk
      rw [if_neg (by show ¬ (zs.length - 1 - 0 + 1 < zs.length); omega), List.nil_append, Nat.sub_zero]
    rw [this]; rfl
  | succ k ih =>
    rw [upto_succ, txt_snoc]
    have hne : txt zs.length (upto (bk zs zs.length) (k + 1)) ≠ [] := by
      intro h
      rw [h] at ih
      cases hd : Lib.decDigits (zs[zs.length - 1]?.getD 0).val with
      | nil => exact dec_ne _ hd
      | cons c l => rw [hd] at ih; cases ih
    rw [← ih]
    cases hd : txt zs.length (upto (bk zs zs.length) (k + 1)) with
    | nil => exact absurd hd hne
    | cons c l => rfl
theorem text_dec (zs : List W9) (ht : zs ≠ [] → (zs[zs.length - 1]?.getD 0).val ≠ 0) : text zs = Lib.decDigits (valW zs) := by
  unfold text
  by_cases h0 : zs = []
  · rw [if_pos h0, h0, valW_nil]
    have h := dec_natOf (l := [48]) (by decide)
    rw [show natOf [48] = 0 from rfl] at h
    exact h.symm
  · rw [if_neg h0]
    have hp := List.length_pos_iff.2 h0
    have hv := txt_val zs zs.length (Nat.le_refl _)
    rw [Nat.sub_self, List.drop_zero] at hv
    rw [← hv]
    refine (dec_natOf ?_).symm
    have hh := txt_head zs h0 (ht h0) (zs.length - 1)
    rw [show zs.length - 1 + 1 = zs.length by omega] at hh
    refine isNat_iff.2 ⟨?_, txt_isD zs _, .inr ?_⟩
    · intro h
      rw [h] at hh
      cases hd : Lib.decDigits (zs[zs.length - 1]?.getD 0).val with
      | nil => exact dec_ne _ hd
      | cons c l => rw [hd] at hh; cases hh
    · rw [hh]
      intro h48
      rcases dec_head (zs[zs.length - 1]?.getD 0).val with h1 | h1
      · cases hd : Lib.decDigits (zs[zs.length - 1]?.getD 0).val with
        | nil => exact dec_ne _ hd
        | cons c l =>
          rw [hd] at h1 h48
          have hl : l = [] := List.length_eq_zero_iff.1 (by simpa using h1)
          subst hl
          injection h48 with h48
          subst h48
          have := natOf_dec (zs[zs.length - 1]?.getD 0).val
          rw [hd] at this
          exact ht h0 (by rw [← this]; rfl)
      · exact h1 h48
theorem parseM_digits (l : List UInt8) : ∀ (acc : Nat), (∀ c ∈ l, isD c = true) → acc * 10 ^ l.length + natOf l < 4294967296 → Lib.parseUintM 4294967295 acc l = .ok (acc * 10 ^ l.length + natOf l) := by
  induction l with
  | nil => intro acc _ _; simp [Lib.parseUintM, natOf]
  | cons c r ih =>
    intro acc hd h
    have hc := isD_iff.1 (hd c (List.mem_cons_self ..))
    have e : natOf (c :: r) = (c.toNat - 48) * 10 ^ r.length + natOf r := by
      rw [show c :: r = [c] ++ r from rfl, natOf_append]
      congr 2
      simp [natOf]
    have hp : 0 < 10 ^ r.length := Nat.pow_pos (by omega)
    have e2 : acc * 10 ^ (r.length + 1) + ((c.toNat - 48) * 10 ^ r.length + natOf r) = (acc * 10 + (c.toNat - 48)) * 10 ^ r.length + natOf r := by
      rw [Nat.pow_succ]; grind
    rw [e, List.length_cons, e2] at h ⊢
    have hb : acc * 10 + (c.toNat - 48) < 4294967296 := by
      have : (acc * 10 + (c.toNat - 48)) * 1 ≤ (acc * 10 + (c.toNat - 48)) * 10 ^ r.length := Nat.mul_le_mul_left _ hp
      omega
    rw [Lib.parseUintM, if_pos ⟨hc.1, hc.2⟩, if_neg (by omega), if_neg (by omega)]
    exact ih _ (fun x hx => hd x (List.mem_cons_of_mem _ hx)) h
theorem parse_chunk (l : List UInt8) (h0 : l ≠ []) (hd : ∀ c ∈ l, isD c = true) (h9 : l.length ≤ 9) : Lib.parseUintB 32 l = .ok (natOf l) := by
  have h1 := natOf_lt l hd
  have h2 : 10 ^ l.length ≤ 10 ^ 9 := Nat.pow_le_pow_right (by omega) h9
  have := parseM_digits l 0 hd (by omega)
  rw [Nat.zero_mul, Nat.zero_add] at this
  rw [Lib.parseUintB, if_neg h0]
  exact this
end Gb
namespace Go.Sx
open Go Go.RowKit Go.Shelf Go.Proofs
theorem meets_val {P : Program} {G : World → Prop} {f : FuncId} (args : List Value) {r : PV} (u : Value) (hent : Enters P f) (hrep : ∀ B w, RepP B w r u) (h : ∀ w, G w → Calls P f ⟨args⟩ w fun e w' => e = .returned u ∧ Below w.heap.size w w') : Meets P G f (args.map .val) r := by
  refine ⟨hent, fun B vs w hB hr hG => ?_⟩
  have : vs = args := by
    clear h
    induction args generalizing vs with
    | nil => simpa only [List.map_nil, RepL] using hr
    | cons x l ih =>
      simp only [List.map_cons, RepL, RepP] at hr
      obtain ⟨y, ys, rfl, rfl, h2⟩ := hr
      rw [ih ys h2]
  subst this
  refine (h w hG).mono ?_
  rintro e w' ⟨rfl, hb⟩
  exact ⟨u, rfl, hrep _ _, hb⟩
end Go.Sx
namespace Go.Proofs.YthhefojkkgjcfaaGreatDoor.S
open Go Go.Sx Go.RowKit Gb Go.Proofs.YthhefojkkgjcfaaGreatDoor.T Go.Shelf
def Gd (w : World) : Prop := Lib.TabIs Tryz.prog w "internal/strconv.uint64pow10" .u64 Lib.pow10Tab
theorem gd (w w' : World) (h : Gd w) (hB : Below w.heap.size w w') : Gd w' := Lib.tabBelow_of_tabIs h w' hB
theorem parse_n (l : List UInt8) (h0 : l ≠ []) (hd : ∀ c ∈ l, isD c = true) (h9 : l.length ≤ 9) : Meets Tryz.prog Gd 133 [strP l, .val (.int .i64 10), .val (.int .i64 32)] (.tup [.val (.int .u64 (natOf l : Nat)), .val .nilIface]) := by
  refine meets_val [.string ⟨l.toArray⟩, .int .i64 10, .int .i64 32] (.tuple ⟨[.int .u64 (natOf l : Nat), .nilIface]⟩) (enters_of Tryz.func133 (by kernel_rfl) rfl) ?_ ?_
  · intro B w
    simp [RepP, RepL]
  · intro w _
    refine (Tryz.strconv_ParseUint_10_at32_ok ⟨l.toArray⟩ (by show l.toArray.size ≤ _; simp; omega) (natOf l) (parse_chunk l h0 hd h9) w).mono ?_
    rintro e w' ⟨rfl, hw⟩
    refine ⟨rfl, ?_⟩
    rcases hw with rfl | rfl
    · exact Below.refl _ _
    · exact Lib.bytesWorld_below _ _ _
def wd (v : Int) : W9 := ⟨v.toNat % 1000000000, Nat.mod_lt _ (by decide)⟩
theorem wd_val {v : Int} (h : 0 ≤ v ∧ v < 1000000000) : ((wd v).val : Int) = v := by unfold wd; show ((v.toNat % 1000000000 : Nat) : Int) = v; omega
theorem valW_wd (l : List Int) (h : Dig l) : (valW (l.map wd) : Int) = val l := by
  induction l with
  | nil => rfl
  | cons x l ih =>
    rw [List.map_cons, valW_cons, val_cons, ← ih h.tail, Int.natCast_add, wd_val h.head]
    simp
theorem text_n (n : Nat) (hn : Lw n < 1000000) : Meets Tryz.prog Gd 84 [nP n] (strP (Lib.decDigits n)) := by
  refine ⟨enters_of Tryz.func84 (by kernel_rfl) rfl, ?_⟩
  intro B vs w hB hr hG
  rw [nP_c] at hr
  simp only [RepL, RepP] at hr
  obtain ⟨v, ys, rfl, ⟨a, c, rfl, hnc, hc0, hcs⟩, rfl⟩ := hr
  have hN := wl_norm n
  have hlen : ((wl n).map wd).length = (wl n).length := by simp
  have hI : (wl n).map wd ≠ [] → Ints w.heap.size w (.slice a ((wl n).map wd).length c) ((wl n).map wd) := by
    intro hne
    rcases hcs with h | ⟨b, o, rfl, hb, hC⟩
    · exact absurd (by simpa using h) (by simpa using hne)
    · refine .inr ⟨_, c, rfl, hB b hb, fun j hj => ?_⟩
      rw [List.length_map] at hj
      obtain ⟨us, h1, h2⟩ := repC_cells hC
      obtain ⟨x, h3, h4⟩ := h1.get j (wv ((wl n).getD j 0)) (by rw [List.getElem?_map, List.getElem?_eq_getElem hj, List.getD_eq_getElem?_getD, List.getElem?_eq_getElem hj]; rfl)
      have h5 := h2 j x h3
      rw [wv_c] at h4
      simp only [RepP] at h4
      rw [h5, h4, List.getElem?_map, List.getElem?_eq_getElem hj]
      have hv := hN.1 _ (List.getElem_mem hj)
      rw [List.getD_eq_getElem?_getD, List.getElem?_eq_getElem hj]
      show some (Value.int .u32 (wl n)[j]) = some (.int .u32 ((wd (wl n)[j]).val : Int))
      rw [wd_val hv]
  have ht := text_calls a c ((wl n).map wd) (by rw [hlen]; show Lw n ≤ _; omega) w hI hG
  rw [hlen, text_dec _ (fun hne => by
    have hl := List.length_pos_iff.2 hne
    rw [hlen] at hl
    have h1 := hN.2 (List.length_pos_iff.1 hl)
    have h2 := hN.1.getD ((wl n).length - 1)
    rw [hlen, List.getElem?_map, List.getElem?_eq_getElem (by omega)]
    rw [List.getD_eq_getElem?_getD, List.getElem?_eq_getElem (by omega)] at h1 h2
    show (wd (wl n)[(wl n).length - 1]).val ≠ 0
    have h3 := wd_val (v := (wl n)[(wl n).length - 1]) h2
    have h1' : (wl n)[(wl n).length - 1] ≠ 0 := h1
    omega)] at ht
  have hval : valW ((wl n).map wd) = n := by
    have := valW_wd (wl n) hN.1
    rw [wl_val] at this
    exact Int.ofNat_inj.1 this
  rw [hval] at ht
  refine ht.mono ?_
  rintro e w' ⟨rfl, hb⟩
  exact ⟨_, rfl, by rw [strP_c]; simp only [RepP], hb⟩
end Go.Proofs.YthhefojkkgjcfaaGreatDoor.S
namespace Go.Proofs.YthhefojkkgjcfaaGreatDoor.S
open Go Go.Sx Go.RowKit Gb
set_option maxRecDepth 100000 in
set_option maxHeartbeats 20000000 in
theorem nvalid_n (l : List UInt8) (hl : l.length < 100000000) : Meets Tryz.prog Gd 77 [strP l] (.val (.bool (isNat l))) := by
  refine meets_of_vc (Y := {}) (N := 32) (rs := [.tmp 2]) mix tk gd Tryz.func77 rfl (by kernel_rfl) rfl rfl (by simp) (by kernel_rfl) ?_
  simp (maxSteps := 10000000) only [↓sx, sx, ↓ty, ↓reduceIte, Nat.reduceEqDiff, Nat.reduceLT, strP_c]
  refine vcIf_b (fun h0 => ?_) (fun h0 => vcIf_dec (fun h1 => ⟨by omega, vcIf_b (fun h2 => ?_) (fun h2 => ?_)⟩) (fun h1 => ?_))
  · have h0 : l = [] := by simpa using h0
    subst h0
    rfl
  · have : isNat l = false := by
      rw [Bool.eq_false_iff]; intro hN
      obtain ⟨_, _, h3⟩ := isNat_iff.1 hN
      rcases h3 with h3 | h3
      · omega
      · apply h3
        cases l with
        | nil => simp at h1
        | cons c l =>
          simp at h2
          have : c = 48 := UInt8.toNat_inj.1 (by rw [show (48 : UInt8).toNat = 48 from rfl]; omega)
          rw [this]; rfl
    rw [this]
  all_goals
    have hz : l ≠ [] ∧ (l.length = 1 ∨ l.head? ≠ some 48) := by
      have hne : l ≠ [] := by intro h; rw [h] at h0; simp at h0
      refine ⟨hne, ?_⟩
      cases l with
      | nil => exact absurd rfl hne
      | cons c l =>
        first
          | (left; simp only [List.length_cons] at h1 ⊢; omega)
          | (right
             simp only [List.head?_cons, ne_eq, Option.some.injEq]
             rintro rfl
             simp at h2)
    clear h0 h1
    refine loopK_of (fun i : Nat => [(0, .p (.val (.string ⟨l.toArray⟩))), (17, .p (.val (.int .i64 (l.length : Nat)))), (18, .p (.val (.int .i64 (i : Nat))))]) (fun _ => []) (fun _ => []) (fun i => i ≤ l.length ∧ ∀ c ∈ l.take i, isD c = true) (fun i => l.length - i) 0 ⟨Nat.zero_le _, by simp⟩ ?_ ?_
    · simp (maxSteps := 10000000) only [isE_nil, is_cons, bo_p, all_nil', ↓sx, sx, ↓reduceIte, Nat.reduceEqDiff]
      try rfl
    · rintro i ⟨h1, h2⟩
      simp (maxSteps := 10000000) only [↓sx, sx, ↓ty, ↓reduceIte, Nat.reduceEqDiff, Nat.reduceLT, getD_get]
      refine vcIf_dec (fun hi => ?_) (fun hi => ?_)
      · have hmem : l.getD i 0 ∈ l := by
          rw [List.getD_eq_getElem?_getD, List.getElem?_eq_getElem (by omega)]; exact List.getElem_mem _
        refine ⟨by omega, vcIf_dec (fun hc => ?_) (fun hc => ?_)⟩
        · have : isNat l = false := by
            rw [Bool.eq_false_iff]; intro hN
            have := isD_iff.1 ((isNat_iff.1 hN).2.1 _ hmem)
            omega
          rw [this]
        · refine ⟨by omega, vcIf_dec (fun hc2 => ?_) (fun hc2 => ?_)⟩
          · have : isNat l = false := by
              rw [Bool.eq_false_iff]; intro hN
              have := isD_iff.1 ((isNat_iff.1 hN).2.1 _ hmem)
              omega
            rw [this]
          · refine NextK.mk (i + 1) (by omega) ⟨by omega, ?_⟩ ?_
            · intro c hc3
              rw [take_succ_getD _ _ (by omega)] at hc3
              rcases List.mem_append.1 hc3 with hc3 | hc3
              · exact h2 c hc3
              · obtain rfl := List.mem_singleton.1 hc3
                rw [isD_iff]; omega
            · simp (maxSteps := 10000000) only [isE_nil, is_cons, bo_p, all_nil', ↓sx, sx, ↓reduceIte, Nat.reduceEqDiff]
              rw [i64_id (by omega) (by omega)]
              rfl
      · obtain rfl : i = l.length := by omega
        rw [List.take_length] at h2
        have : isNat l = true := isNat_iff.2 ⟨hz.1, h2, hz.2⟩
        rw [this]
theorem chunk_eq (l : List UInt8) (k : Nat) (hk : k ≤ l.length) : natOf (l.take k) = natOf ((l.take k).drop (k - 9)) + 1000000000 * natOf (l.take (k - 9)) := by
  have h1 : l.take k = (l.take k).take (k - 9) ++ (l.take k).drop (k - 9) := (List.take_append_drop _ _).symm
  have h2 : (l.take k).take (k - 9) = l.take (k - 9) := by rw [List.take_take]; congr 1; omega
  rw [h2] at h1
  conv => lhs; rw [h1, natOf_append]
  have hlen : ((l.take k).drop (k - 9)).length = k - (k - 9) := by rw [List.length_drop, List.length_take]; omega
  rw [hlen]
  by_cases h9 : 9 ≤ k
  · rw [show k - (k - 9) = 9 by omega]; omega
  · rw [show k - 9 = 0 by omega, List.take_zero, natOf_nil]; omega
set_option maxRecDepth 100000 in
set_option maxHeartbeats 20000000 in
theorem nread_n (l : List UInt8) (hd : ∀ c ∈ l, isD c = true) (hl : l.length < 1000000) : Meets Tryz.prog Gd 78 [strP l] (nP (natOf l)) := by
  refine meets_of_vc (Y := {}) (N := 31) (rs := [.tmp 2]) mix tk gd Tryz.func78 rfl (by kernel_rfl) rfl rfl (by simp) (by kernel_rfl) ?_
  simp (maxSteps := 10000000) only [↓sx, sx, ↓ty, ↓reduceIte, Nat.reduceEqDiff, strP_c]
  refine loopK_of (fun s : Nat × List Int => [(0, .p (.val (.string ⟨(l.take s.1).toArray⟩))), (3, .orow 3)]) (fun _ => []) (fun s => [(3, ⟨135, 1, s.2.length, s.2.map wv, false⟩)]) (fun s => s.1 ≤ l.length ∧ s.1 + s.2.length ≤ l.length ∧ Dig s.2 ∧ val s.2 + 1000000000 ^ s.2.length * (natOf (l.take s.1) : Nat) = (natOf l : Nat)) (fun s => s.1) (l.length, []) ⟨Nat.le_refl _, Nat.le_refl _, Dig.nil, by simp [val]⟩ ?_ ?_
  · simp (maxSteps := 10000000) only [isE_nil, is_cons, bo_p, bo_orow, any_cons', all_cons', all_nil', Bool.true_or, ↓sx, sx, ↓reduceIte, Nat.reduceEqDiff]
    simp
  · rintro ⟨k, out⟩ ⟨h1, h2, h3, h4⟩
    dsimp only at h1 h2 h3 h4 ⊢
    have hlk : (l.take k).length = k := by rw [List.length_take]; omega
    simp (maxSteps := 10000000) only [↓sx, sx, ↓ty, ↓reduceIte, Nat.reduceEqDiff, hlk]
    refine vcIf_dec (fun hk => ?_) (fun hk => ?_)
    · have hmx : (if (0 : Int) > IntKind.i64.wrap ((k : Int) - 9) then 0 else IntKind.i64.wrap ((k : Int) - 9)) = ((k - 9 : Nat) : Int) := by
        rw [i64_id (by omega) (by omega)]; split <;> omega
      rw [hmx, Int.toNat_natCast]
      have hcl : ((l.take k).drop (k - 9)).length = k - (k - 9) := by rw [List.length_drop, hlk]
      have hcd : ∀ c ∈ (l.take k).drop (k - 9), isD c = true := fun c hc => hd c (List.mem_of_mem_take (List.mem_of_mem_drop hc))
      have hcn := natOf_lt _ hcd
      have hce := chunk_eq l k h1
      have hc9 : natOf ((l.take k).drop (k - 9)) < 1000000000 := by
        have : 10 ^ ((l.take k).drop (k - 9)).length ≤ 10 ^ 9 := Nat.pow_le_pow_right (by omega) (by omega)
        omega
      refine ⟨by omega, ?_⟩
      refine CallT.to (parse_n ((l.take k).drop (k - 9)) (by intro h0; rw [h0] at hcl; simp at hcl; omega) hcd (by omega)) (by rw [List.take_of_length_le (by omega)]; rfl) ?_
      simp (maxSteps := 10000000) only [↓sx, sx, ↓ty, ↓reduceIte, Nat.reduceEqDiff, Nat.reduceAdd, Nat.reduceLeDiff, Nat.reduceLT, ne_eq, not_false_eq_true, hlk]
      refine ⟨⟨by simp only [maxLen]; omega, by omega⟩, by omega, ?_⟩
      refine NextK.mk (k - 9, out ++ [((natOf ((l.take k).drop (k - 9)) : Nat) : Int)]) (by dsimp only; omega) ⟨by dsimp only; omega, by simp; omega, h3.snoc (by omega) (by omega), ?_⟩ ?_
      · dsimp only
        rw [val_snoc, List.length_append, List.length_singleton, Int.pow_succ, ← h4, hce]
        generalize natOf ((l.take k).drop (k - 9)) = x at *
        generalize natOf (l.take (k - 9)) = y at *
        rw [Int.natCast_add, Int.natCast_mul]
        grind
      · simp (maxSteps := 10000000) only [isE_nil, is_cons, bo_p, bo_orow, any_cons', all_cons', all_nil', Bool.true_or, ↓sx, sx, ↓reduceIte, Nat.reduceEqDiff]
        have e1 : (l.take k).take (k - 9) = l.take (k - 9) := by rw [List.take_take]; congr 1; omega
        rw [u32_id (x := ((natOf ((l.take k).drop (k - 9)) : Nat) : Int)) (by omega) (by omega)]
        simp [wv_c, e1]
    · obtain rfl : k = 0 := by omega
      rw [List.take_zero, natOf_nil] at h4
      refine CallT.mk (ntrim_n gd out (by omega) h3 (natOf l) (by omega)) ?_
      simp (maxSteps := 10000000) only [↓sx, sx, ↓reduceIte]
end Go.Proofs.YthhefojkkgjcfaaGreatDoor.S
namespace Go.Proofs.YthhefojkkgjcfaaGreatDoor.S
open Go Go.Sx Go.RowKit Gb
theorem nvalid_d (n : Nat) (h : Lw n < 1000000) : Meets Tryz.prog Gd 77 [dP n] (.val (.bool true)) := by
  have := nvalid_n (Lib.decDigits n) (by have := dec_len n; omega)
  rwa [isNat_dec] at this
theorem nread_d (n : Nat) (h : Lw n < 100000) : Meets Tryz.prog Gd 78 [dP n] (nP n) := by
  have := nread_n (Lib.decDigits n) (dec_isD n) (by have := dec_len n; omega)
  rwa [natOf_dec] at this
set_option maxRecDepth 100000 in
theorem nboth_n (a b : Nat) (ha : Lw a < 100000) (hb : Lw b < 100000) : Meets Tryz.prog Gd 85 [dP a, dP b] (.tup [nP a, nP b, .val (.int .i64 0)]) := by
  refine meets_of_vc (Y := {}) (N := 19) (rs := [.tmp 4, .tmp 5, .tmp 6]) mix tk gd Tryz.func85 rfl (by kernel_rfl) rfl rfl (by simp) (by kernel_rfl) ?_
  simp (maxSteps := 10000000) only [↓sx, sx, ↓ty, ↓reduceIte, Nat.reduceEqDiff, dP_c]
  refine CallT.mk (nvalid_d a (by omega)) ?_
  simp (maxSteps := 10000000) only [↓sx, sx, ↓reduceIte, Nat.reduceEqDiff, Nat.reduceLT]
  refine CallT.mk (nvalid_d b (by omega)) ?_
  simp (maxSteps := 10000000) only [↓sx, sx, ↓reduceIte, Nat.reduceEqDiff, Nat.reduceLT]
  refine CallT.mk (nread_d a ha) ?_
  simp (maxSteps := 10000000) only [↓sx, sx, ↓reduceIte, Nat.reduceEqDiff, nP_c]
  refine CallT.mk (nread_d b hb) ?_
  simp (maxSteps := 10000000) only [↓sx, sx, ↓reduceIte, Nat.reduceEqDiff, nP_c]
set_option maxRecDepth 100000 in
theorem napply_n (g : FuncId) (a b r : Nat) (h : Meets Tryz.prog Gd g [nP a, nP b] (nP r)) (hr : Lw r < 1000000) : Meets Tryz.prog Gd 86 [.clo g [nP a] [], nP b] (.tup [dP r, .val (.int .i64 0)]) := by
  refine meets_of_vc (Y := {}) (N := 10) (rs := [.tmp 4, .tmp 5]) mix tk gd Tryz.func86 rfl (by kernel_rfl) rfl rfl (by simp) (by kernel_rfl) ?_
  simp (maxSteps := 10000000) only [↓sx, sx, ↓reduceIte, Nat.reduceEqDiff, dP_c, nP_c]
  refine CallT.mk h ?_
  simp (maxSteps := 10000000) only [↓sx, sx, ↓reduceIte, nP_c]
  refine CallT.mk (text_n r hr) ?_
  simp (maxSteps := 10000000) only [↓sx, sx, strP_c]
set_option maxRecDepth 100000 in
theorem nadd_n (a b : Nat) (ha : Lw a < 100000) (hb : Lw b < 100000) : Meets Tryz.prog Gd 193 [dP a, dP b] (.tup [dP (a + b), .val (.int .i64 0)]) := by
  refine meets_of_vc (Y := {}) (N := 25) (rs := [.tmp 4, .tmp 5]) mix tk gd Tryz.func193 rfl (by kernel_rfl) rfl rfl (by simp) (by kernel_rfl) ?_
  simp (maxSteps := 10000000) only [↓sx, sx, ↓reduceIte, Nat.reduceEqDiff, dP_c]
  refine CallT.mk (nboth_n a b ha hb) ?_
  simp (maxSteps := 10000000) only [↓sx, sx, ↓reduceIte, Nat.reduceEqDiff, Int.reduceBNe, nP_c]
  refine CallT.mk (napply_n _ a b (a + b) (nplus_n gd a b (by omega) (by omega)) (by have := Lw_add a b; omega)) ?_
  simp (maxSteps := 10000000) only [↓sx, sx, dP_c]
set_option maxRecDepth 100000 in
theorem nsub_n (a b : Nat) (ha : Lw a < 100000) (hb : Lw b < 100000) (hle : b ≤ a) : Meets Tryz.prog Gd 195 [dP a, dP b] (.tup [dP (a - b), .val (.int .i64 0)]) := by
  refine meets_of_vc (Y := {}) (N := 31) (rs := [.tmp 4, .tmp 5]) mix tk gd Tryz.func195 rfl (by kernel_rfl) rfl rfl (by simp) (by kernel_rfl) ?_
  simp (maxSteps := 10000000) only [↓sx, sx, ↓reduceIte, Nat.reduceEqDiff, dP_c]
  refine CallT.mk (nboth_n a b ha hb) ?_
  simp (maxSteps := 10000000) only [↓sx, sx, ↓reduceIte, Nat.reduceEqDiff, Int.reduceBNe, nP_c]
  refine CallT.mk (ncmp_n gd a b (by omega) (by omega)) ?_
  simp (maxSteps := 10000000) only [↓sx, sx, ↓reduceIte, Nat.reduceEqDiff, iP_c]
  refine vcIf_dec (fun h => ?_) (fun h => ?_)
  · exfalso
    unfold cmpI at h
    rw [if_neg (by omega)] at h
    split at h <;> omega
  · refine CallT.mk (napply_n _ a b (a - b) (nminus_n gd a b (by omega) (by omega) hle) (by have := Lw_mono (Nat.sub_le a b); omega)) ?_
    simp (maxSteps := 10000000) only [↓sx, sx, dP_c]
set_option maxRecDepth 100000 in
theorem nmul_n (a b : Nat) (ha : Lw a < 100000) (hb : Lw b < 100000) : Meets Tryz.prog Gd 41 [dP a, dP b] (.tup [dP (a * b), .val (.int .i64 0)]) := by
  refine meets_of_vc (Y := {}) (N := 25) (rs := [.tmp 4, .tmp 5]) mix tk gd Tryz.func41 rfl (by kernel_rfl) rfl rfl (by simp) (by kernel_rfl) ?_
  simp (maxSteps := 10000000) only [↓sx, sx, ↓reduceIte, Nat.reduceEqDiff, dP_c]
  refine CallT.mk (nboth_n a b ha hb) ?_
  simp (maxSteps := 10000000) only [↓sx, sx, ↓reduceIte, Nat.reduceEqDiff, Int.reduceBNe, nP_c]
  refine CallT.mk (napply_n _ a b (a * b) (ntimes_n gd a b (by omega) (by omega)) (by have := Lw_mul a b; omega)) ?_
  simp (maxSteps := 10000000) only [↓sx, sx, dP_c]
set_option maxRecDepth 100000 in
theorem ngcdt_n (a b : Nat) (ha : Lw a < 100000) (hb : Lw b < 100000) : Meets Tryz.prog Gd 161 [dP a, dP b] (.tup [dP (Nat.gcd a b), .val (.int .i64 0)]) := by
  refine meets_of_vc (Y := {}) (N := 25) (rs := [.tmp 4, .tmp 5]) mix tk gd Tryz.func161 rfl (by kernel_rfl) rfl rfl (by simp) (by kernel_rfl) ?_
  simp (maxSteps := 10000000) only [↓sx, sx, ↓reduceIte, Nat.reduceEqDiff, dP_c]
  refine CallT.mk (nboth_n a b ha hb) ?_
  simp (maxSteps := 10000000) only [↓sx, sx, ↓reduceIte, Nat.reduceEqDiff, Int.reduceBNe, nP_c]
  have hg : Lw (Nat.gcd a b) < 1000000 := by
    by_cases h0 : a = 0
    · subst h0; rw [Nat.gcd_zero_left]; omega
    · have := Lw_mono (Nat.le_of_dvd (by omega) (Nat.gcd_dvd_left a b)); omega
  refine CallT.mk (napply_n _ a b (Nat.gcd a b) (ngcd_n gd a b (by omega) (by omega)) hg) ?_
  simp (maxSteps := 10000000) only [↓sx, sx, dP_c]
set_option maxRecDepth 100000 in
theorem ncompare_n (a b : Nat) (ha : Lw a < 100000) (hb : Lw b < 100000) : Meets Tryz.prog Gd 194 [dP a, dP b] (.tup [iP (cmpI a b), .val (.int .i64 0)]) := by
  refine meets_of_vc (Y := {}) (N := 22) (rs := [.tmp 4, .tmp 5]) mix tk gd Tryz.func194 rfl (by kernel_rfl) rfl rfl (by simp) (by kernel_rfl) ?_
  simp (maxSteps := 10000000) only [↓sx, sx, ↓reduceIte, Nat.reduceEqDiff, dP_c]
  refine CallT.mk (nboth_n a b ha hb) ?_
  simp (maxSteps := 10000000) only [↓sx, sx, ↓reduceIte, Nat.reduceEqDiff, Int.reduceBNe, nP_c]
  refine CallT.mk (ncmp_n gd a b (by omega) (by omega)) ?_
  simp (maxSteps := 10000000) only [↓sx, sx, iP_c]
set_option maxRecDepth 100000 in
theorem ndivmod_n (a b : Nat) (ha : Lw a < 100000) (hb : Lw b < 100000) (hb0 : 0 < b) : Meets Tryz.prog Gd 152 [dP a, dP b] (.tup [dP (a / b), dP (a % b), .val (.int .i64 0)]) := by
  refine meets_of_vc (Y := {}) (N := 37) (rs := [.tmp 4, .tmp 5, .tmp 6]) mix tk gd Tryz.func152 rfl (by kernel_rfl) rfl rfl (by simp) (by kernel_rfl) ?_
  simp (maxSteps := 10000000) only [↓sx, sx, ↓ty, ↓reduceIte, Nat.reduceEqDiff, dP_c]
  refine CallT.mk (nboth_n a b ha hb) ?_
  simp (maxSteps := 10000000) only [↓sx, sx, ↓reduceIte, Nat.reduceEqDiff, Int.reduceBNe, nP_c, len_Lw]
  refine vcIf_b (fun h => ?_) (fun h => ?_)
  · exfalso
    have : Lw b = 0 := by simpa using h
    have := (Lw_zero_iff b).1 this
    omega
  · refine CallT.mk (ndivide_n gd a b (by omega) (by omega) hb0) ?_
    simp (maxSteps := 10000000) only [↓sx, sx, ↓reduceIte, nP_c]
    refine CallT.mk (text_n (a / b) (by have := Lw_mono (Nat.div_le_self a b); omega)) ?_
    simp (maxSteps := 10000000) only [↓sx, sx, ↓reduceIte, Nat.reduceEqDiff, strP_c]
    refine CallT.mk (text_n (a % b) (by have := Lw_mono (Nat.le_of_lt (Nat.mod_lt a hb0)); omega)) ?_
    simp (maxSteps := 10000000) only [↓sx, sx, ↓reduceIte, Nat.reduceEqDiff, strP_c]
end Go.Proofs.YthhefojkkgjcfaaGreatDoor.S
namespace Gb
open Go Go.RowKit Go.Sx
def cutM : List UInt8 → List UInt8 × Bool
  | [] => ([], false)
  | c :: r => if c = 45 then (r, true) else (c :: r, false)
theorem cutM_cons (c : UInt8) (r : List UInt8) : cutM (c :: r) = if c = 45 then (r, true) else (c :: r, false) := rfl
def nmP (z : Int) : PV := .agg [.val (.bool (decide (z < 0))), dP z.natAbs]
theorem nmP_c (z : Int) : nmP z = .agg [.val (.bool (decide (z < 0))), .val (.string ⟨(Lib.decDigits z.natAbs).toArray⟩)] := rfl
theorem isInt_cutM (l : List UInt8) : isInt l = (isNat (cutM l).1 && !((cutM l).2 == true && (cutM l).1 == [48])) := by
  cases l with
  | nil => rfl
  | cons c r =>
    rw [isInt_cons, cutM_cons]
    by_cases hc : c = 45
    · rw [if_pos hc, if_pos hc]; simp; rfl
    · rw [if_neg hc, if_neg hc]; simp
theorem cutM_int {l : List UInt8} (h : isInt l = true) : (PV.agg [.val (.bool (cutM l).2), strP (cutM l).1]) = nmP (intOf l) := by
  cases l with
  | nil => simp [isInt] at h
  | cons c r =>
    rw [isInt_cons] at h
    rw [cutM_cons, intOf_cons]
    by_cases hc : c = 45
    · rw [if_pos hc] at h ⊢
      rw [if_pos hc]
      simp only [Bool.and_eq_true, bne_iff_ne] at h
      have h0 : natOf r ≠ 0 := fun h0 => h.2 (natOf_zero h.1 h0)
      unfold nmP dP
      rw [Int.natAbs_neg, Int.natAbs_natCast, dec_natOf h.1]
      have : decide (-(natOf r : Int) < 0) = true := by simp; omega
      rw [this]
    · rw [if_neg hc] at h ⊢
      rw [if_neg hc]
      unfold nmP dP
      rw [Int.natAbs_natCast, dec_natOf h]
      have : decide ((natOf (c :: r) : Int) < 0) = false := by simp
      rw [this]
theorem dec_is0 (n : Nat) : (Lib.decDigits n == [48]) = decide (n = 0) := by
  by_cases h : n = 0
  · subst h; rw [Lib.decDigits]; rfl
  · have := dec_pos_ne h
    simp [this, h]
end Gb
namespace Go.Proofs.YthhefojkkgjcfaaGreatDoor.S
open Go Go.Sx Go.RowKit Gb
set_option maxRecDepth 100000 in
theorem hasp_n (l m : List UInt8) : Meets Tryz.prog Gd 174 [strP l, strP m] (.val (.bool (decide (m.length ≤ l.length) && l.take m.length == m))) := by
  refine meets_of_vc (Y := {}) (N := 18) (rs := [.tmp 4]) mix tk gd Tryz.func174 rfl (by kernel_rfl) rfl rfl (by simp) (by kernel_rfl) ?_
  simp (maxSteps := 10000000) only [↓sx, sx, ↓ty, ↓reduceIte, Nat.reduceEqDiff, Nat.reduceLT, strP_c]
  refine vcIf_dec (fun h => ?_) (fun h => ?_)
  · refine ⟨by omega, ?_⟩
    have : m.length ≤ l.length := by omega
    simp [this]
  · have : ¬ m.length ≤ l.length := by omega
    simp [this]
set_option maxRecDepth 100000 in
theorem cutp_n (l m : List UInt8) : Meets Tryz.prog Gd 149 [strP l, strP m] (if decide (m.length ≤ l.length) && l.take m.length == m then .tup [strP (l.drop m.length), .val (.bool true)] else .tup [strP l, .val (.bool false)]) := by
  refine meets_of_vc (Y := {}) (N := 15) (rs := [.tmp 4, .tmp 5]) mix tk gd Tryz.func149 rfl (by kernel_rfl) rfl rfl (by simp) (by kernel_rfl) ?_
  simp (maxSteps := 10000000) only [↓sx, sx, ↓ty, ↓reduceIte, Nat.reduceEqDiff, strP_c]
  refine CallT.mk (hasp_n l m) ?_
  simp (maxSteps := 10000000) only [↓sx, sx, ↓ty, ↓reduceIte, Nat.reduceEqDiff]
  refine vcIf_b (fun h => ?_) (fun h => ?_)
  · rw [Bool.not_eq_true'] at h
    rw [if_neg (by rw [h]; simp)]
  · rw [Bool.not_eq_false'] at h
    rw [if_pos h]
    simp only [Bool.and_eq_true, decide_eq_true_eq] at h
    refine ⟨by omega, ?_⟩
    simp [List.take_of_length_le]
set_option maxRecDepth 100000 in
theorem cutpp_n (l m : List UInt8) : Meets Tryz.prog Gd 89 [strP l, strP m] (if decide (m.length ≤ l.length) && l.take m.length == m then .tup [strP (l.drop m.length), .val (.bool true)] else .tup [strP l, .val (.bool false)]) := by
  refine meets_of_vc (Y := {}) (N := 11) (rs := [.tmp 4, .tmp 5]) mix tk gd Tryz.func89 rfl (by kernel_rfl) rfl rfl (by simp) (by kernel_rfl) ?_
  simp (maxSteps := 10000000) only [↓sx, sx, ↓reduceIte, Nat.reduceEqDiff, strP_c]
  refine CallT.mk (cutp_n l m) ?_
  by_cases h : (decide (m.length ≤ l.length) && l.take m.length == m) = true
  · rw [if_pos h]
    simp (maxSteps := 10000000) only [↓sx, sx, strP_c]
    rw [if_pos h]
  · rw [if_neg h]
    simp (maxSteps := 10000000) only [↓sx, sx, strP_c]
    rw [if_neg h]
theorem cutm_n (l : List UInt8) : Meets Tryz.prog Gd 89 [strP l, strP [45]] (.tup [strP (cutM l).1, .val (.bool (cutM l).2)]) := by
  have := cutpp_n l [45]
  cases l with
  | nil => exact this
  | cons c r =>
    rw [cutM_cons]
    by_cases hc : c = 45
    · subst hc
      rw [if_pos rfl]
      rw [if_pos (by simp)] at this
      exact this
    · rw [if_neg hc]
      rw [if_neg (by simp [hc])] at this
      exact this
set_option maxRecDepth 100000 in
theorem iread_n (l : List UInt8) (hl : l.length < 10000000) : Meets Tryz.prog Gd 148 [strP l] (.tup [.agg [.val (.bool (cutM l).2), strP (cutM l).1], .val (.bool (isInt l))]) := by
  refine meets_of_vc (Y := { ex := [3] }) (N := 23) (rs := [.cell 2 162, .tmp 3]) mix tk gd Tryz.func148 rfl (by kernel_rfl) rfl rfl (by simp) (by kernel_rfl) ?_
  simp (maxSteps := 10000000) only [↓sx, sx, ↓ty, ↓reduceIte, Nat.reduceEqDiff, Nat.reduceAdd, Nat.reduceLeDiff, List.getElem?_cons_zero, List.getElem?_cons_succ, and_self, Bool.and_self, Nat.reduceAdd, Nat.le_refl, strP_c]
  refine CallT.mk (cutm_n l) ?_
  simp (maxSteps := 10000000) only [↓sx, sx, ↓ty, ↓reduceIte, Nat.reduceEqDiff, Nat.reduceAdd, Nat.reduceLeDiff, List.getElem?_cons_zero, List.getElem?_cons_succ, and_self, Bool.and_self, Nat.reduceAdd, Nat.le_refl, strP_c]
  refine ⟨by kernel_rfl, ?_⟩
  have hlen : (cutM l).1.length < 100000000 := by
    cases l with
    | nil => simp [cutM]
    | cons c r => rw [cutM_cons]; simp at hl; split <;> simp <;> omega
  refine CallT.mk (nvalid_n (cutM l).1 hlen) ?_
  simp (maxSteps := 10000000) only [↓sx, sx, ↓ty, ↓reduceIte, Nat.reduceEqDiff, Nat.reduceAdd, Nat.reduceLT, and_self, Bool.and_self, Nat.reduceAdd, Nat.le_refl, ag]
  refine vcIf_b (fun h => ?_) (fun h => ?_)
  · rw [isInt_cutM, h, Bool.true_and]
  · rw [isInt_cutM, h, Bool.false_and]
set_option maxRecDepth 100000 in
theorem zero_n : Meets Tryz.prog Gd 163 [] (nmP 0) := by
  refine meets_of_vc (Y := {}) (N := 2) (rs := [.cell 0 162]) mix tk gd Tryz.func163 rfl (by kernel_rfl) rfl rfl (by simp) (by kernel_rfl) ?_
  simp (maxSteps := 10000000) only [↓sx, sx, ↓ty, ↓reduceIte, Nat.reduceEqDiff, Nat.reduceAdd, Nat.reduceLeDiff, List.getElem?_cons_zero, List.getElem?_cons_succ, and_self, Bool.and_self, Nat.reduceAdd, Nat.le_refl]
  rw [nmP_c, show (0 : Int).natAbs = 0 from rfl, Lib.decDigits]
  rfl
set_option maxRecDepth 100000 in
theorem with_n (b : Bool) (n : Nat) (z : Int) (hz : zmk b n = z) : Meets Tryz.prog Gd 164 [.val (.bool b), dP n] (nmP z) := by
  subst hz
  refine meets_of_vc (Y := {}) (N := 12) (rs := [.cell 4 162]) mix tk gd Tryz.func164 rfl (by kernel_rfl) rfl rfl (by simp) (by kernel_rfl) ?_
  simp (maxSteps := 10000000) only [↓sx, sx, ↓ty, ↓reduceIte, Nat.reduceEqDiff, Nat.reduceAdd, Nat.reduceLeDiff, Nat.reduceLT, List.getElem?_cons_zero, List.getElem?_cons_succ, and_self, Bool.and_self, Nat.reduceAdd, Nat.le_refl, dP_c, nmP_c, zmk_abs]
  refine vcIf_b (fun h => ?_) (fun h => ?_)
  · subst h
    have : (!(Lib.decDigits n == [48])) = decide (zmk true n < 0) := by
      rw [dec_is0]
      unfold zmk
      by_cases h0 : n = 0
      · subst h0; rfl
      · simp [h0]; omega
    rw [← this]
  · subst h
    have : decide (zmk false n < 0) = false := by unfold zmk; simp
    rw [this]
end Go.Proofs.YthhefojkkgjcfaaGreatDoor.S
namespace Gb
open Go
theorem ne0_iff (z : Int) : (decide (z < 0) == false && Lib.decDigits z.natAbs == [48]) = decide (z = 0) := by
  rw [dec_is0]
  by_cases h : z = 0
  · subst h; rfl
  · have : z.natAbs ≠ 0 := by omega
    simp [h]
end Gb
namespace Go.Proofs.YthhefojkkgjcfaaGreatDoor.S
open Go Go.Sx Go.RowKit Gb
set_option maxRecDepth 100000 in
theorem itext_n (z : Int) (hz : Lw z.natAbs < 1000000) : Meets Tryz.prog Gd 126 [nmP z] (siP z) := by
  refine meets_of_vc (Y := {}) (N := 10) (rs := [.tmp 2]) mix tk gd Tryz.func126 rfl (by kernel_rfl) rfl rfl (by simp) (by kernel_rfl) ?_
  simp (maxSteps := 10000000) only [↓sx, sx, ↓ty, ↓reduceIte, Nat.reduceEqDiff, Nat.reduceAdd, ne_eq, not_false_eq_true, List.getElem?_cons_zero, List.getElem?_cons_succ, Nat.reduceAdd, nmP_c, siP_c]
  have := dec_len z.natAbs
  refine vcIf_dec (fun h => ?_) (fun h => ?_)
  · refine ⟨by omega, ?_⟩
    unfold iD
    rw [if_pos h]
  · unfold iD
    rw [if_neg h]
set_option maxRecDepth 100000 in
theorem iopp_n (z : Int) : Meets Tryz.prog Gd 128 [nmP z] (nmP (-z)) := by
  refine meets_of_vc (Y := {}) (N := 9) (rs := [.cell 2 162]) mix tk gd Tryz.func128 rfl (by kernel_rfl) rfl rfl (by simp) (by kernel_rfl) ?_
  simp (maxSteps := 10000000) only [↓sx, sx, ↓ty, ↓reduceIte, Nat.reduceEqDiff, Nat.reduceAdd, ne_eq, not_false_eq_true, List.getElem?_cons_zero, List.getElem?_cons_succ, Nat.reduceAdd, nmP_c]
  refine CallT.mk (with_n (!decide (z < 0)) z.natAbs (-z) ?_) ?_
  · by_cases h : z < 0
    · simp [zmk, h]; omega
    · simp [zmk, h]; omega
  · simp (maxSteps := 10000000) only [↓sx, sx, ↓ty, ↓reduceIte, Nat.reduceEqDiff, Nat.reduceAdd, and_self, Bool.and_self, Nat.reduceAdd, Nat.le_refl, nmP_c]
set_option maxRecDepth 100000 in
theorem isign_n (z : Int) : Meets Tryz.prog Gd 129 [nmP z] (iP z.sign) := by
  refine meets_of_vc (Y := {}) (N := 10) (rs := [.tmp 2]) mix tk gd Tryz.func129 rfl (by kernel_rfl) rfl rfl (by simp) (by kernel_rfl) ?_
  simp (maxSteps := 10000000) only [↓sx, sx, ↓ty, ↓reduceIte, Nat.reduceEqDiff, Nat.reduceAdd, Nat.reduceAdd, Nat.le_refl, nmP_c, iP_c]
  refine CallT.mk zero_n ?_
  simp (maxSteps := 10000000) only [↓sx, sx, ↓ty, ↓reduceIte, Nat.reduceEqDiff, Nat.reduceAdd, ne_eq, not_false_eq_true, List.getElem?_cons_zero, Bool.and_self, Nat.reduceAdd, nmP_c, ag]
  have e0 : decide ((0 : Int) < 0) = false := rfl
  have e1 : Lib.decDigits (0 : Int).natAbs = [48] := by rw [show (0 : Int).natAbs = 0 from rfl, Lib.decDigits]; rfl
  rw [e0, e1, ne0_iff]
  refine vcIf_dec (fun h => ?_) (fun h => ?_)
  · subst h; rfl
  · refine vcIf_dec (fun h2 => ?_) (fun h2 => ?_)
    · rw [Int.sign_eq_neg_one_of_neg h2]
    · rw [Int.sign_eq_one_of_pos (by omega)]
set_option maxRecDepth 100000 in
theorem isum_n (x y : Int) (hx : Lw x.natAbs < 100000) (hy : Lw y.natAbs < 100000) (h : x < 0 ↔ y < 0) : Meets Tryz.prog Gd 165 [nmP x, nmP y] (nmP (x + y)) := by
  refine meets_of_vc (Y := {}) (N := 19) (rs := [.cell 4 162]) mix tk gd Tryz.func165 rfl (by kernel_rfl) rfl rfl (by simp) (by kernel_rfl) ?_
  simp (maxSteps := 10000000) only [↓sx, sx, ↓ty, ↓reduceIte, Nat.reduceEqDiff, Nat.reduceAdd, ne_eq, not_false_eq_true, List.getElem?_cons_zero, List.getElem?_cons_succ, Nat.reduceAdd, nmP_c]
  refine CallT.mk (nadd_n x.natAbs y.natAbs hx hy) ?_
  simp (maxSteps := 10000000) only [↓sx, sx, ↓reduceIte, Nat.reduceEqDiff, Nat.reduceAdd, ne_eq, not_false_eq_true, Nat.reduceAdd, dP_c]
  refine CallT.mk (with_n (decide (x < 0)) (x.natAbs + y.natAbs) (x + y) ?_) ?_
  · by_cases hx0 : x < 0
    · simp [zmk, hx0]; omega
    · simp [zmk, hx0]; omega
  · simp (maxSteps := 10000000) only [↓sx, sx, ↓ty, ↓reduceIte, Nat.reduceEqDiff, Nat.reduceAdd, and_self, Bool.and_self, Nat.reduceAdd, Nat.le_refl, nmP_c]
set_option maxRecDepth 100000 in
theorem idiff_n (x y : Int) (hx : Lw x.natAbs < 100000) (hy : Lw y.natAbs < 100000) (h : ¬ (x < 0 ↔ y < 0)) : Meets Tryz.prog Gd 166 [nmP x, nmP y] (nmP (x + y)) := by
  refine meets_of_vc (Y := {}) (N := 33) (rs := [.cell 4 162]) mix tk gd Tryz.func166 rfl (by kernel_rfl) rfl rfl (by simp) (by kernel_rfl) ?_
  simp (maxSteps := 10000000) only [↓sx, sx, ↓ty, ↓reduceIte, Nat.reduceEqDiff, Nat.reduceAdd, ne_eq, not_false_eq_true, List.getElem?_cons_zero, List.getElem?_cons_succ, Nat.reduceAdd, nmP_c]
  refine CallT.mk (ncompare_n x.natAbs y.natAbs hx hy) ?_
  simp (maxSteps := 10000000) only [↓sx, sx, ↓ty, ↓reduceIte, Nat.reduceEqDiff, Nat.reduceAdd, ne_eq, not_false_eq_true, and_self, Bool.and_self, Nat.reduceAdd, Nat.le_refl, iP_c]
  refine vcIf_dec (fun hc => ?_) (fun hc => ?_)
  · have hle : x.natAbs ≤ y.natAbs := by
      unfold cmpI at hc
      split at hc
      · omega
      · split at hc <;> omega
    refine CallT.mk (nsub_n y.natAbs x.natAbs hy hx hle) ?_
    simp (maxSteps := 10000000) only [↓sx, sx, ↓reduceIte, Nat.reduceEqDiff, Nat.reduceAdd, ne_eq, not_false_eq_true, Nat.reduceAdd, dP_c]
    refine CallT.mk (with_n (decide (y < 0)) (y.natAbs - x.natAbs) (x + y) ?_) ?_
    · by_cases hy0 : y < 0
      · simp [zmk, hy0]; omega
      · simp [zmk, hy0]; omega
    · simp (maxSteps := 10000000) only [↓sx, sx, ↓ty, ↓reduceIte, Nat.reduceEqDiff, Nat.reduceAdd, and_self, Bool.and_self, Nat.reduceAdd, Nat.le_refl, nmP_c]
  · have hle : y.natAbs ≤ x.natAbs := by
      unfold cmpI at hc
      split at hc
      · omega
      · omega
    refine CallT.mk (nsub_n x.natAbs y.natAbs hx hy hle) ?_
    simp (maxSteps := 10000000) only [↓sx, sx, ↓reduceIte, Nat.reduceEqDiff, Nat.reduceAdd, ne_eq, not_false_eq_true, Nat.reduceAdd, dP_c]
    refine CallT.mk (with_n (decide (x < 0)) (x.natAbs - y.natAbs) (x + y) ?_) ?_
    · by_cases hx0 : x < 0
      · simp [zmk, hx0]; omega
      · simp [zmk, hx0]; omega
    · simp (maxSteps := 10000000) only [↓sx, sx, ↓ty, ↓reduceIte, Nat.reduceEqDiff, Nat.reduceAdd, and_self, Bool.and_self, Nat.reduceAdd, Nat.le_refl, nmP_c]
set_option maxRecDepth 100000 in
theorem ibit_n (b : Bool) : Meets Tryz.prog Gd 167 [.val (.bool b)] (iP (if b then 1 else 0)) := by
  refine meets_of_vc (Y := {}) (N := 4) (rs := [.tmp 2]) mix tk gd Tryz.func167 rfl (by kernel_rfl) rfl rfl (by simp) (by kernel_rfl) ?_
  simp (maxSteps := 10000000) only [↓sx, sx, ↓reduceIte, Nat.reduceEqDiff, iP_c]
  refine vcIf_b (fun h => ?_) (fun h => ?_)
  · subst h; rfl
  · subst h; rfl
set_option maxRecDepth 100000 in
theorem iplus_n (x y : Int) (hx : Lw x.natAbs < 100000) (hy : Lw y.natAbs < 100000) : Meets Tryz.prog Gd 127 [nmP x, nmP y] (nmP (x + y)) := by
  refine meets_of_vc (Y := {}) (N := 21) (rs := [.cell 4 162]) mix tk gd Tryz.func127 rfl (by kernel_rfl) rfl rfl (by simp) (by kernel_rfl) ?_
  by_cases hx0 : x < 0 <;> by_cases hy0 : y < 0
  · simp (maxSteps := 10000000) only [↓sx, sx, ↓ty, ↓reduceIte, Nat.reduceEqDiff, Nat.reduceAdd, Nat.reduceLeDiff, Nat.reduceMul, ne_eq, not_false_eq_true, List.getElem?_cons_zero, and_self, Bool.and_self, Nat.reduceAdd, Nat.le_refl, nmP_c]
    refine CallT.mk (ibit_n _) ?_
    simp (maxSteps := 10000000) only [↓sx, sx, ↓reduceIte, Nat.reduceEqDiff, Nat.reduceAdd, ne_eq, not_false_eq_true, Nat.reduceAdd, iP_c]
    refine CallT.mk (ibit_n _) ?_
    simp (maxSteps := 10000000) only [↓sx, sx, ↓ty, ↓reduceIte, Nat.reduceEqDiff, Nat.reduceAdd, Nat.reduceLT, Nat.reduceMul, Nat.reduceAdd, Nat.le_refl, iP_c, hx0, hy0, decide_true, Int.reduceToNat]
    refine ⟨by omega, by omega, ?_⟩
    refine CallT.to (isum_n x y hx hy (by omega)) (by simp [nmP_c, hx0, hy0]) ?_
    simp (maxSteps := 10000000) only [↓sx, sx, ↓reduceIte, Nat.reduceEqDiff, Nat.reduceAdd, and_self, Bool.and_self, Nat.reduceAdd, Nat.le_refl, nmP_c]
  · simp (maxSteps := 10000000) only [↓sx, sx, ↓ty, ↓reduceIte, Nat.reduceEqDiff, Nat.reduceAdd, Nat.reduceLeDiff, Nat.reduceMul, ne_eq, not_false_eq_true, List.getElem?_cons_zero, and_self, Bool.and_self, Nat.reduceAdd, Nat.le_refl, nmP_c]
    refine CallT.mk (ibit_n _) ?_
    simp (maxSteps := 10000000) only [↓sx, sx, ↓reduceIte, Nat.reduceEqDiff, Nat.reduceAdd, ne_eq, not_false_eq_true, Nat.reduceAdd, iP_c]
    refine CallT.mk (ibit_n _) ?_
    simp (maxSteps := 10000000) only [↓sx, sx, ↓ty, ↓reduceIte, Nat.reduceEqDiff, Nat.reduceAdd, Nat.reduceLT, Nat.reduceMul, Nat.reduceAdd, Nat.le_refl, iP_c, hx0, hy0, decide_true, decide_false, Int.reduceToNat]
    refine ⟨by omega, by omega, ?_⟩
    refine CallT.to (idiff_n x y hx hy (by omega)) (by simp [nmP_c, hx0, hy0]) ?_
    simp (maxSteps := 10000000) only [↓sx, sx, ↓reduceIte, Nat.reduceEqDiff, Nat.reduceAdd, and_self, Bool.and_self, Nat.reduceAdd, Nat.le_refl, nmP_c]
  · simp (maxSteps := 10000000) only [↓sx, sx, ↓ty, ↓reduceIte, Nat.reduceEqDiff, Nat.reduceAdd, Nat.reduceLeDiff, Nat.reduceMul, ne_eq, not_false_eq_true, List.getElem?_cons_zero, and_self, Bool.and_self, Nat.reduceAdd, Nat.le_refl, nmP_c]
    refine CallT.mk (ibit_n _) ?_
    simp (maxSteps := 10000000) only [↓sx, sx, ↓reduceIte, Nat.reduceEqDiff, Nat.reduceAdd, ne_eq, not_false_eq_true, Nat.reduceAdd, iP_c]
    refine CallT.mk (ibit_n _) ?_
    simp (maxSteps := 10000000) only [↓sx, sx, ↓ty, ↓reduceIte, Nat.reduceEqDiff, Nat.reduceAdd, Nat.reduceLT, Nat.reduceMul, Nat.reduceAdd, Nat.le_refl, iP_c, hx0, hy0, decide_true, decide_false, Int.reduceToNat]
    refine ⟨by omega, by omega, ?_⟩
    refine CallT.to (idiff_n x y hx hy (by omega)) (by simp [nmP_c, hx0, hy0]) ?_
    simp (maxSteps := 10000000) only [↓sx, sx, ↓reduceIte, Nat.reduceEqDiff, Nat.reduceAdd, and_self, Bool.and_self, Nat.reduceAdd, Nat.le_refl, nmP_c]
  · simp (maxSteps := 10000000) only [↓sx, sx, ↓ty, ↓reduceIte, Nat.reduceEqDiff, Nat.reduceAdd, Nat.reduceLeDiff, Nat.reduceMul, ne_eq, not_false_eq_true, List.getElem?_cons_zero, and_self, Bool.and_self, Nat.reduceAdd, Nat.le_refl, nmP_c]
    refine CallT.mk (ibit_n _) ?_
    simp (maxSteps := 10000000) only [↓sx, sx, ↓reduceIte, Nat.reduceEqDiff, Nat.reduceAdd, ne_eq, not_false_eq_true, Nat.reduceAdd, iP_c]
    refine CallT.mk (ibit_n _) ?_
    simp (maxSteps := 10000000) only [↓sx, sx, ↓ty, ↓reduceIte, Nat.reduceEqDiff, Nat.reduceAdd, Nat.reduceLT, Nat.reduceMul, Nat.reduceAdd, Nat.le_refl, iP_c, hx0, hy0, decide_false]
    refine ⟨by omega, by omega, ?_⟩
    refine CallT.to (isum_n x y hx hy (by omega)) (by simp [nmP_c, hx0, hy0]) ?_
    simp (maxSteps := 10000000) only [↓sx, sx, ↓reduceIte, Nat.reduceEqDiff, Nat.reduceAdd, and_self, Bool.and_self, Nat.reduceAdd, Nat.le_refl, nmP_c]
set_option maxRecDepth 100000 in
theorem itimes_n (x y : Int) (hx : Lw x.natAbs < 100000) (hy : Lw y.natAbs < 100000) : Meets Tryz.prog Gd 125 [nmP x, nmP y] (nmP (x * y)) := by
  refine meets_of_vc (Y := {}) (N := 22) (rs := [.cell 4 162]) mix tk gd Tryz.func125 rfl (by kernel_rfl) rfl rfl (by simp) (by kernel_rfl) ?_
  simp (maxSteps := 10000000) only [↓sx, sx, ↓ty, ↓reduceIte, Nat.reduceEqDiff, Nat.reduceAdd, ne_eq, not_false_eq_true, List.getElem?_cons_zero, List.getElem?_cons_succ, Nat.reduceAdd, nmP_c]
  refine CallT.mk (nmul_n x.natAbs y.natAbs hx hy) ?_
  simp (maxSteps := 10000000) only [↓sx, sx, ↓ty, ↓reduceIte, Nat.reduceEqDiff, Nat.reduceAdd, ne_eq, not_false_eq_true, Nat.reduceAdd, dP_c]
  refine CallT.mk (with_n (!decide (x < 0) == decide (y < 0)) (x.natAbs * y.natAbs) (x * y) ?_) ?_
  · conv => rhs; rw [← zmk_self x, ← zmk_self y]
    unfold zmk
    by_cases h1 : x < 0 <;> by_cases h2 : y < 0 <;> simp [h1, h2, Int.natCast_mul, Int.neg_mul, Int.mul_neg]
  · simp (maxSteps := 10000000) only [↓sx, sx, ↓ty, ↓reduceIte, Nat.reduceEqDiff, Nat.reduceAdd, and_self, Bool.and_self, Nat.reduceAdd, Nat.le_refl, nmP_c]
set_option maxRecDepth 100000 in
theorem idivide_n (x y : Int) (hx : Lw x.natAbs < 100000) (hy : Lw y.natAbs < 100000) (h0 : y ≠ 0) : Meets Tryz.prog Gd 181 [nmP x, nmP y] (.tup [nmP (x / y), nmP (x % y)]) := by
  refine meets_of_vc (Y := {}) (N := 45) (rs := [.cell 4 162, .cell 5 162]) mix tk gd Tryz.func181 rfl (by kernel_rfl) rfl rfl (by simp) (by kernel_rfl) ?_
  simp (maxSteps := 10000000) only [↓sx, sx, ↓ty, ↓reduceIte, Nat.reduceEqDiff, Nat.reduceAdd, ne_eq, not_false_eq_true, List.getElem?_cons_zero, List.getElem?_cons_succ, Nat.reduceAdd, nmP_c]
  refine CallT.mk (ndivmod_n x.natAbs y.natAbs hx hy (by omega)) ?_
  simp (maxSteps := 10000000) only [↓sx, sx, ↓ty, ↓reduceIte, Nat.reduceEqDiff, Nat.reduceAdd, Nat.reduceLT, ne_eq, not_false_eq_true, Nat.reduceAdd, dP_c]
  have hm : 0 < y.natAbs := by omega
  have hn : (x.natAbs : Int) = y.natAbs * (x.natAbs / y.natAbs : Nat) + (x.natAbs % y.natAbs : Nat) := by
    have := Nat.div_add_mod x.natAbs y.natAbs
    rw [← Int.natCast_mul, ← Int.natCast_add, this]
  have hr : x.natAbs % y.natAbs < y.natAbs := Nat.mod_lt _ hm
  have hq : Lw (x.natAbs / y.natAbs) ≤ Lw x.natAbs := Lw_mono (Nat.div_le_self _ _)
  have hrL : Lw (x.natAbs % y.natAbs) ≤ Lw y.natAbs := Lw_mono (by omega)
  generalize x.natAbs / y.natAbs = q at *
  generalize x.natAbs % y.natAbs = r at *
  have key : ∀ (b : Bool) (q' r' : Nat), zmk b q' * y + (r' : Int) = x → r' < y.natAbs → zmk b q' = x / y ∧ (r' : Int) = x % y := by
    intro b q' r' h1 h2
    have := euclid_unique h0 h1 (by omega) (by omega)
    exact ⟨this.1.symm, this.2.symm⟩
  have hy' : y = zmk (decide (y < 0)) y.natAbs := (zmk_self y).symm
  have e49 : (⟨#[49]⟩ : ByteArray) = ⟨(Lib.decDigits 1).toArray⟩ := by rw [Lib.decDigits]; rfl
  have fin : ∀ (q' r' : Nat), zmk (!decide (x < 0) == decide (y < 0)) q' = x / y → (r' : Int) = x % y → Meets Tryz.prog Gd 164 [.val (.bool (!decide (x < 0) == decide (y < 0))), dP q'] (nmP (x / y)) ∧ Meets Tryz.prog Gd 164 [.val (.bool false), dP r'] (nmP (x % y)) := by
    intro q' r' h1 h2
    exact ⟨with_n _ _ _ h1, with_n _ _ _ (by rw [← h2]; simp [zmk])⟩
  have rest : x < 0 → r ≠ 0 → zmk (!decide (x < 0) == decide (y < 0)) (q + 1) = x / y ∧ ((y.natAbs - r : Nat) : Int) = x % y := by
    intro hx0 hr0
    refine key (!decide (x < 0) == decide (y < 0)) (q + 1) (y.natAbs - r) ?_ (by omega)
    have e1 : ((y.natAbs - r : Nat) : Int) = y.natAbs - r := by omega
    rw [e1]
    conv => lhs; rw [hy', zmk_abs]
    unfold zmk
    by_cases hy0 : y < 0 <;> simp [hx0, hy0] <;> grind
  have plain : (x < 0 → r = 0) → zmk (!decide (x < 0) == decide (y < 0)) q = x / y ∧ (r : Int) = x % y := by
    intro hx0
    refine key (!decide (x < 0) == decide (y < 0)) q r ?_ hr
    rw [hy']
    unfold zmk
    by_cases hx1 : x < 0
    · have := hx0 hx1
      subst this
      by_cases hy0 : y < 0 <;> simp [hx1, hy0] <;> grind
    · by_cases hy0 : y < 0 <;> simp [hx1, hy0] <;> grind
  refine vcIf_dec (fun hx0 => vcIf_b (fun hr0 => ?_) (fun hr0 => ?_)) (fun hx0 => ?_)
  · have hr0 : r ≠ 0 := by
      intro h
      subst h
      rw [dec_is0] at hr0
      simp at hr0
    obtain ⟨k1, k2⟩ := rest hx0 hr0
    obtain ⟨f1, f2⟩ := fin (q + 1) (y.natAbs - r) k1 k2
    refine CallT.to (nadd_n q 1 (by omega) (by rw [Lw_one]; omega)) (by rw [e49]; rfl) ?_
    simp (maxSteps := 10000000) only [↓sx, sx, ↓reduceIte, Nat.reduceEqDiff, Nat.reduceAdd, ne_eq, not_false_eq_true, Nat.reduceAdd, dP_c]
    refine CallT.mk (nsub_n y.natAbs r hy (by omega) (by omega)) ?_
    simp (maxSteps := 10000000) only [↓sx, sx, ↓ty, ↓reduceIte, Nat.reduceEqDiff, Nat.reduceAdd, ne_eq, not_false_eq_true, Nat.reduceAdd, dP_c]
    refine CallT.mk f1 ?_
    simp (maxSteps := 10000000) only [↓sx, sx, ↓reduceIte, Nat.reduceEqDiff, nmP_c]
    refine CallT.mk f2 ?_
    simp (maxSteps := 10000000) only [↓sx, sx, ↓ty, ↓reduceIte, Nat.reduceEqDiff, Nat.reduceAdd, and_self, Bool.and_self, Nat.reduceAdd, Nat.le_refl, nmP_c]
  · have hr0 : r = 0 := by
      rw [dec_is0] at hr0
      simpa using hr0
    obtain ⟨k1, k2⟩ := plain (fun _ => hr0)
    obtain ⟨f1, f2⟩ := fin q r k1 k2
    refine CallT.mk f1 ?_
    simp (maxSteps := 10000000) only [↓sx, sx, ↓reduceIte, Nat.reduceEqDiff, nmP_c]
    refine CallT.mk f2 ?_
    simp (maxSteps := 10000000) only [↓sx, sx, ↓ty, ↓reduceIte, Nat.reduceEqDiff, Nat.reduceAdd, and_self, Bool.and_self, Nat.reduceAdd, Nat.le_refl, nmP_c]
  · obtain ⟨k1, k2⟩ := plain (fun h => absurd h hx0)
    obtain ⟨f1, f2⟩ := fin q r k1 k2
    refine CallT.mk f1 ?_
    simp (maxSteps := 10000000) only [↓sx, sx, ↓reduceIte, Nat.reduceEqDiff, nmP_c]
    refine CallT.mk f2 ?_
    simp (maxSteps := 10000000) only [↓sx, sx, ↓ty, ↓reduceIte, Nat.reduceEqDiff, Nat.reduceAdd, and_self, Bool.and_self, Nat.reduceAdd, Nat.le_refl, nmP_c]
end Go.Proofs.YthhefojkkgjcfaaGreatDoor.S
namespace Gb
open Go Go.Sx
theorem e48 : (⟨#[48]⟩ : ByteArray) = ⟨(iD 0).toArray⟩ := by rw [show iD 0 = Lib.decDigits 0 from rfl, Lib.decDigits]; rfl
end Gb
namespace Go.Proofs.YthhefojkkgjcfaaGreatDoor.S
open Go Go.Sx Go.RowKit Gb
theorem iread_d (z : Int) (h : Lw z.natAbs < 100000) : Meets Tryz.prog Gd 148 [siP z] (.tup [nmP z, .val (.bool true)]) := by
  have := iread_n (iD z) (by have := iD_len z; omega)
  rw [isInt_iD, cutM_int (isInt_iD z), intOf_iD] at this
  exact this
set_option maxRecDepth 100000 in
theorem iboth_n (x y : Int) (hx : Lw x.natAbs < 100000) (hy : Lw y.natAbs < 100000) : Meets Tryz.prog Gd 124 [siP x, siP y] (.tup [nmP x, nmP y, .val (.int .i64 0)]) := by
  refine meets_of_vc (Y := { ex := [5] }) (N := 31) (rs := [.cell 4 162, .cell 5 162, .tmp 6]) mix tk gd Tryz.func124 rfl (by kernel_rfl) rfl rfl (by simp) (by kernel_rfl) ?_
  simp (maxSteps := 10000000) only [↓sx, sx, ↓ty, ↓reduceIte, Nat.reduceEqDiff, siP_c]
  refine CallT.mk (iread_d x hx) ?_
  simp (maxSteps := 10000000) only [↓sx, sx, ↓ty, ↓reduceIte, Nat.reduceEqDiff, Nat.reduceAdd, and_self, Bool.and_self, Nat.reduceAdd, Nat.le_refl, nmP_c]
  refine CallT.mk (iread_d y hy) ?_
  simp (maxSteps := 10000000) only [↓sx, sx, ↓ty, ↓reduceIte, Nat.reduceEqDiff, Nat.reduceAdd, Nat.reduceLT, and_self, Bool.and_self, Nat.reduceAdd, Nat.le_refl, nmP_c]
  kernel_rfl
set_option maxRecDepth 100000 in
theorem ione_n (x : Int) (hx : Lw x.natAbs < 100000) : Meets Tryz.prog Gd 150 [siP x] (.tup [nmP x, .val (.int .i64 0)]) := by
  refine meets_of_vc (Y := {}) (N := 15) (rs := [.cell 2 162, .tmp 3]) mix tk gd Tryz.func150 rfl (by kernel_rfl) rfl rfl (by simp) (by kernel_rfl) ?_
  simp (maxSteps := 10000000) only [↓sx, sx, ↓ty, ↓reduceIte, Nat.reduceEqDiff, siP_c]
  refine CallT.to (iboth_n x 0 hx (by simp [Lw_zero])) (by rw [e48]; rfl) ?_
  simp (maxSteps := 10000000) only [↓sx, sx, ↓ty, ↓reduceIte, Nat.reduceEqDiff, Nat.reduceAdd, and_self, Bool.and_self, Nat.reduceAdd, Nat.le_refl, nmP_c]
set_option maxRecDepth 100000 in
theorem ivalid_n (l : List UInt8) (hl : l.length < 10000000) : Meets Tryz.prog Gd 88 [strP l] (.val (.bool (isInt l))) := by
  refine meets_of_vc (Y := {}) (N := 11) (rs := [.tmp 2]) mix tk gd Tryz.func88 rfl (by kernel_rfl) rfl rfl (by simp) (by kernel_rfl) ?_
  simp (maxSteps := 10000000) only [↓sx, sx, ↓ty, ↓reduceIte, Nat.reduceEqDiff, strP_c]
  refine CallT.mk (iread_n l hl) ?_
  simp (maxSteps := 10000000) only [↓sx, sx, ↓ty, ↓reduceIte, Nat.reduceEqDiff, Nat.reduceAdd, and_self, Bool.and_self, Nat.reduceAdd, Nat.le_refl, strP_c]
set_option maxRecDepth 100000 in
theorem isignt_n (x : Int) (hx : Lw x.natAbs < 100000) : Meets Tryz.prog Gd 123 [siP x] (.tup [iP x.sign, .val (.int .i64 0)]) := by
  refine meets_of_vc (Y := {}) (N := 14) (rs := [.tmp 2, .tmp 3]) mix tk gd Tryz.func123 rfl (by kernel_rfl) rfl rfl (by simp) (by kernel_rfl) ?_
  simp (maxSteps := 10000000) only [↓sx, sx, ↓ty, ↓reduceIte, Nat.reduceEqDiff, siP_c]
  refine CallT.mk (ione_n x hx) ?_
  simp (maxSteps := 10000000) only [↓sx, sx, ↓ty, ↓reduceIte, Nat.reduceEqDiff, Nat.reduceAdd, and_self, Bool.and_self, Nat.reduceAdd, Nat.le_refl, nmP_c]
  refine CallT.mk (isign_n x) ?_
  simp (maxSteps := 10000000) only [↓sx, sx, ↓reduceIte, Nat.reduceEqDiff, iP_c]
set_option maxRecDepth 100000 in
theorem iabs_n (x : Int) (hx : Lw x.natAbs < 100000) : Meets Tryz.prog Gd 160 [siP x] (.tup [dP x.natAbs, .val (.int .i64 0)]) := by
  refine meets_of_vc (Y := {}) (N := 16) (rs := [.tmp 2, .tmp 3]) mix tk gd Tryz.func160 rfl (by kernel_rfl) rfl rfl (by simp) (by kernel_rfl) ?_
  simp (maxSteps := 10000000) only [↓sx, sx, ↓ty, ↓reduceIte, Nat.reduceEqDiff, List.getElem?_cons_zero, List.getElem?_cons_succ, siP_c]
  refine CallT.mk (ione_n x hx) ?_
  simp (maxSteps := 10000000) only [↓sx, sx, ↓ty, ↓reduceIte, Nat.reduceEqDiff, Nat.reduceAdd, Int.reduceBNe, ne_eq, not_false_eq_true, and_self, Bool.and_self, Nat.reduceAdd, Nat.le_refl, nmP_c, dP_c]
set_option maxRecDepth 100000 in
theorem ineg_n (x : Int) (hx : Lw x.natAbs < 100000) : Meets Tryz.prog Gd 90 [siP x] (.tup [siP (-x), .val (.int .i64 0)]) := by
  refine meets_of_vc (Y := {}) (N := 17) (rs := [.tmp 2, .tmp 3]) mix tk gd Tryz.func90 rfl (by kernel_rfl) rfl rfl (by simp) (by kernel_rfl) ?_
  simp (maxSteps := 10000000) only [↓sx, sx, ↓ty, ↓reduceIte, Nat.reduceEqDiff, siP_c]
  refine CallT.mk (ione_n x hx) ?_
  simp (maxSteps := 10000000) only [↓sx, sx, ↓ty, ↓reduceIte, Nat.reduceEqDiff, Nat.reduceAdd, Int.reduceBNe, and_self, Bool.and_self, Nat.reduceAdd, Nat.le_refl, nmP_c]
  refine CallT.mk (iopp_n x) ?_
  simp (maxSteps := 10000000) only [↓sx, sx, ↓reduceIte, nmP_c]
  refine CallT.mk (itext_n (-x) (by rw [Int.natAbs_neg]; omega)) ?_
  simp (maxSteps := 10000000) only [↓sx, sx, siP_c]
set_option maxRecDepth 100000 in
theorem icompare_n (x y : Int) (hx : Lw x.natAbs < 100000) (hy : Lw y.natAbs < 100000) : Meets Tryz.prog Gd 66 [siP x, siP y] (.tup [iP (x - y).sign, .val (.int .i64 0)]) := by
  refine meets_of_vc (Y := {}) (N := 22) (rs := [.tmp 4, .tmp 5]) mix tk gd Tryz.func66 rfl (by kernel_rfl) rfl rfl (by simp) (by kernel_rfl) ?_
  simp (maxSteps := 10000000) only [↓sx, sx, ↓ty, ↓reduceIte, Nat.reduceEqDiff, siP_c]
  refine CallT.mk (iboth_n x y hx hy) ?_
  simp (maxSteps := 10000000) only [↓sx, sx, ↓ty, ↓reduceIte, Nat.reduceEqDiff, Nat.reduceAdd, and_self, Bool.and_self, Nat.reduceAdd, Nat.le_refl, nmP_c]
  refine CallT.mk (iopp_n y) ?_
  simp (maxSteps := 10000000) only [↓sx, sx, nmP_c]
  refine CallT.mk (iplus_n x (-y) hx (by rw [Int.natAbs_neg]; exact hy)) ?_
  simp (maxSteps := 10000000) only [↓sx, sx, nmP_c]
  refine CallT.mk (isign_n (x + -y)) ?_
  simp (maxSteps := 10000000) only [↓sx, sx, ↓reduceIte, iP_c]
  rw [Int.sub_eq_add_neg]
set_option maxRecDepth 100000 in
theorem iadd_n (x y : Int) (hx : Lw x.natAbs < 100000) (hy : Lw y.natAbs < 100000) : Meets Tryz.prog Gd 116 [siP x, siP y] (.tup [siP (x + y), .val (.int .i64 0)]) := by
  refine meets_of_vc (Y := {}) (N := 23) (rs := [.tmp 4, .tmp 5]) mix tk gd Tryz.func116 rfl (by kernel_rfl) rfl rfl (by simp) (by kernel_rfl) ?_
  simp (maxSteps := 10000000) only [↓sx, sx, ↓ty, ↓reduceIte, Nat.reduceEqDiff, siP_c]
  refine CallT.mk (iboth_n x y hx hy) ?_
  simp (maxSteps := 10000000) only [↓sx, sx, ↓ty, ↓reduceIte, Nat.reduceEqDiff, Nat.reduceAdd, Int.reduceBNe, and_self, Bool.and_self, Nat.reduceAdd, Nat.le_refl, nmP_c]
  refine CallT.mk (iplus_n x y hx hy) ?_
  simp (maxSteps := 10000000) only [↓sx, sx, ↓reduceIte, nmP_c]
  have hb : Lw (x + y).natAbs < 1000000 := by
    have h1 := Lw_mono (show (x + y).natAbs ≤ x.natAbs + y.natAbs by omega)
    have h2 := Lw_add x.natAbs y.natAbs
    omega
  refine CallT.mk (itext_n (x + y) hb) ?_
  simp (maxSteps := 10000000) only [↓sx, sx, siP_c]
set_option maxRecDepth 100000 in
theorem imul_n (x y : Int) (hx : Lw x.natAbs < 100000) (hy : Lw y.natAbs < 100000) : Meets Tryz.prog Gd 65 [siP x, siP y] (.tup [siP (x * y), .val (.int .i64 0)]) := by
  refine meets_of_vc (Y := {}) (N := 23) (rs := [.tmp 4, .tmp 5]) mix tk gd Tryz.func65 rfl (by kernel_rfl) rfl rfl (by simp) (by kernel_rfl) ?_
  simp (maxSteps := 10000000) only [↓sx, sx, ↓ty, ↓reduceIte, Nat.reduceEqDiff, siP_c]
  refine CallT.mk (iboth_n x y hx hy) ?_
  simp (maxSteps := 10000000) only [↓sx, sx, ↓ty, ↓reduceIte, Nat.reduceEqDiff, Nat.reduceAdd, Int.reduceBNe, and_self, Bool.and_self, Nat.reduceAdd, Nat.le_refl, nmP_c]
  refine CallT.mk (itimes_n x y hx hy) ?_
  simp (maxSteps := 10000000) only [↓sx, sx, ↓reduceIte, nmP_c]
  have hb : Lw (x * y).natAbs < 1000000 := by
    rw [Int.natAbs_mul]
    have h2 := Lw_mul x.natAbs y.natAbs
    omega
  refine CallT.mk (itext_n (x * y) hb) ?_
  simp (maxSteps := 10000000) only [↓sx, sx, siP_c]
set_option maxRecDepth 100000 in
theorem idivmod_n (x y : Int) (hx : Lw x.natAbs < 100000) (hy : Lw y.natAbs < 100000) (h0 : y ≠ 0) : Meets Tryz.prog Gd 151 [siP x, siP y] (.tup [siP (x / y), siP (x % y), .val (.int .i64 0)]) := by
  refine meets_of_vc (Y := {}) (N := 37) (rs := [.tmp 4, .tmp 5, .tmp 6]) mix tk gd Tryz.func151 rfl (by kernel_rfl) rfl rfl (by simp) (by kernel_rfl) ?_
  simp (maxSteps := 10000000) only [↓sx, sx, ↓ty, ↓reduceIte, Nat.reduceEqDiff, siP_c]
  refine CallT.mk (iboth_n x y hx hy) ?_
  simp (maxSteps := 10000000) only [↓sx, sx, ↓ty, ↓reduceIte, Nat.reduceEqDiff, Nat.reduceAdd, Int.reduceBNe, and_self, Bool.and_self, Nat.reduceAdd, Nat.le_refl, nmP_c]
  refine CallT.mk zero_n ?_
  simp (maxSteps := 10000000) only [↓sx, sx, ↓ty, ↓reduceIte, Nat.reduceEqDiff, Nat.reduceAdd, Bool.and_self, Nat.reduceAdd, Nat.le_refl, nmP_c, ag]
  have e0 : decide ((0 : Int) < 0) = false := rfl
  have e1 : Lib.decDigits (0 : Int).natAbs = [48] := by rw [show (0 : Int).natAbs = 0 from rfl, Lib.decDigits]; rfl
  rw [e0, e1, ne0_iff]
  refine vcIf_dec (fun h => absurd h h0) (fun _ => ?_)
  refine CallT.mk (idivide_n x y hx hy h0) ?_
  simp (maxSteps := 10000000) only [↓sx, sx, ↓ty, ↓reduceIte, Nat.reduceEqDiff, Nat.reduceAdd, and_self, Bool.and_self, Nat.reduceAdd, Nat.le_refl, nmP_c]
  have hb1 := Lw_ediv x y h0
  have hb2 := Lw_emod x y h0
  refine CallT.mk (itext_n (x / y) (by omega)) ?_
  simp (maxSteps := 10000000) only [↓sx, sx, ↓reduceIte, Nat.reduceAdd, Nat.reduceAdd, Nat.le_refl, siP_c]
  refine CallT.mk (itext_n (x % y) (by omega)) ?_
  simp (maxSteps := 10000000) only [↓sx, sx, siP_c]
end Go.Proofs.YthhefojkkgjcfaaGreatDoor.S
namespace Go.Proofs.YthhefojkkgjcfaaGreatDoor.S
open Go Go.Sx Go.RowKit Go.Shelf Gb
theorem set_push (a : Array Obj) (o o' : Obj) : (a.push o).setIfInBounds a.size o' = a.push o' := by
  apply Array.ext
  · simp
  · intro i h1 h2
    rw [Array.getElem_setIfInBounds (by simpa using h1), Array.getElem_push]
    rw [Array.getElem_push]
    simp only [Array.size_push] at h2
    split <;> split <;> first | rfl | omega
theorem set_alloc (w : World) (o o' : Obj) : ({ heap := (w.alloc o).heap.setIfInBounds w.heap.size o', tape := w.tape, drawn := w.drawn, os := (w.alloc o).os, output := (w.alloc o).output } : World) = w.alloc o' := by
  show ({ w with heap := (w.heap.push o).setIfInBounds w.heap.size o' } : World) = { w with heap := w.heap.push o' }
  rw [set_push]
def opsL : List (Int × FuncId) := [(43, 187), (42, 188), (45, 189), (47, 191)]
theorem run_ins (w : World) (es : Array MapEntry) (c : Nat) (k : Int) (g : FuncId) (h : Instr.findNow (.int .u8) (.int .u8 k) es.toList 0 = some none) :
    (Instr.mapUpdate 158 (.map (some w.heap.size)) (.int .u8 k) (.func (.func g) #[] #[])).run Tryz.prog (w.alloc (.map es c)) = .ok () (w.alloc (.map (es.push { key := .int .u8 k, val := .func (.func g) #[] #[], born := c }) (c + 1))) := by
  have hb : (w.alloc (.map es c)).heap[w.heap.size]? = some (.map es c) := by
    show (w.heap.push _)[w.heap.size]? = _
    simp
  have hm : Tryz.prog.underlying 158 = some (.map 5 157) := by kernel_rfl
  have hd : Tryz.prog.underlying 5 = some (.int .u8) := by kernel_rfl
  simp [Instr.mapUpdate, run_underlying hm, MapKept.run_getObj_map hb, MapKept.run_checkKey (k := .int .u8 k) hd (by simp [MapKept.IsKey]), MapKept.run_findKey hd h, MapKept.run_setObj_map _ hb, Result.andThen]
  exact set_alloc w _ _
theorem four (w : World) : ∃ E1 E2 E3 E4 : Array MapEntry, (Instr.mapUpdate 158 (.map (some w.heap.size)) (.int .u8 43) (.func (.func 187) #[] #[])).run Tryz.prog (w.alloc (.map #[] 0)) = .ok () (w.alloc (.map E1 1)) ∧
    (Instr.mapUpdate 158 (.map (some w.heap.size)) (.int .u8 42) (.func (.func 188) #[] #[])).run Tryz.prog (w.alloc (.map E1 1)) = .ok () (w.alloc (.map E2 2)) ∧
    (Instr.mapUpdate 158 (.map (some w.heap.size)) (.int .u8 45) (.func (.func 189) #[] #[])).run Tryz.prog (w.alloc (.map E2 2)) = .ok () (w.alloc (.map E3 3)) ∧
    (Instr.mapUpdate 158 (.map (some w.heap.size)) (.int .u8 47) (.func (.func 191) #[] #[])).run Tryz.prog (w.alloc (.map E3 3)) = .ok () (w.alloc (.map E4 4)) ∧
    E4.toList.map (fun e => (e.key, e.val)) = opsL.map fun x => (Value.int .u8 x.1, Value.func (.func x.2) ⟨[]⟩ ⟨[]⟩) :=
  ⟨_, _, _, _, run_ins w _ _ _ _ rfl, run_ins w _ _ _ _ rfl, run_ins w _ _ _ _ rfl, run_ins w _ _ _ _ rfl, rfl⟩
set_option maxHeartbeats 6400000 in
set_option maxRecDepth 100000 in
theorem operations_n : Meets Tryz.prog Gd 162 [] (.mp opsL) := by
  refine ⟨enters_of Tryz.func162 (by kernel_rfl) rfl, fun B vs w hB hr hG => ?_⟩
  simp only [RepL] at hr
  subst hr
  have hmm := @run_makeMap Tryz.prog
  obtain ⟨E1, E2, E3, E4, h1, h2, h3, h4, e⟩ := four w
  go_enter Tryz.func162, Tryz.ntmps162
  go_wp2
  go_ret
  refine ⟨_, rfl, ?_, ?_⟩
  · simp only [RepP]
    refine ⟨w.heap.size, E4, 4, rfl, ⟨.inr (Nat.le_refl _), ?_⟩, ?_, e⟩
    · show _ < (w.heap.push _).size
      simp
    · show (w.heap.push _)[w.heap.size]? = _
      simp
  · exact (Below.refl _ _).alloc (Nat.le_refl _) _
set_option maxRecDepth 100000 in
theorem all_n : Meets Tryz.prog Gd 122 [] (.mp opsL) := by
  refine meets_of_vc (Y := {}) (N := 2) (rs := [.tmp 0]) mix tk gd Tryz.func122 rfl (by kernel_rfl) rfl rfl (by simp) (by kernel_rfl) ?_
  simp (maxSteps := 10000000) only [↓sx, sx]
  refine CallT.mk operations_n ?_
  simp (maxSteps := 10000000) only [↓sx, sx, ↓reduceIte]
end Go.Proofs.YthhefojkkgjcfaaGreatDoor.S
namespace Go.Proofs.YthhefojkkgjcfaaGreatDoor.S
open Go Go.Sx Go.RowKit Gb Go.Shelf
theorem index_n (l : List UInt8) : Meets Tryz.prog Gd 185 [strP l, strP [47]] (iP (Lib.indexByte l 47)) := by
  refine meets_val [.string ⟨l.toArray⟩, .string ⟨#[47]⟩] (.int .i64 (Lib.indexByte l 47)) (enters_of Tryz.func185 (by kernel_rfl) rfl) ?_ ?_
  · intro B w
    simp only [iP, RepP]
  · intro w _
    refine (Tryz.stringslite_Index_one ⟨l.toArray⟩ 47 w).mono ?_
    rintro e w' ⟨rfl, rfl⟩
    exact ⟨rfl, Below.refl _ _⟩
set_option maxRecDepth 100000 in
theorem cuts_n (l : List UInt8) (hl : l.length < 10000000) : Meets Tryz.prog Gd 159 [strP l, strP [47]] (.tup [strP (cutW l).1, strP (cutW l).2.1, .val (.bool (cutW l).2.2)]) := by
  refine meets_of_vc (Y := {}) (N := 23) (rs := [.tmp 4, .tmp 5, .tmp 6]) mix tk gd Tryz.func159 rfl (by kernel_rfl) rfl rfl (by simp) (by kernel_rfl) ?_
  simp (maxSteps := 10000000) only [↓sx, sx, ↓reduceIte, Nat.reduceEqDiff, pc]
  refine CallT.mk (index_n l) ?_
  simp (maxSteps := 10000000) only [↓sx, sx, ↓ty, ↓reduceIte, Nat.reduceEqDiff, Nat.reduceAdd, pc, ls, Nat.reduceAdd]
  rcases idx_splitM l with ⟨h1, h2⟩ | ⟨n, h0, h1, h2⟩
  · rw [h1]
    have : cutW l = (l, [], false) := by unfold cutW; rw [h2]; rfl
    rw [this]
    refine vcIf_dec (fun h => by omega) (fun h => ?_)
    rfl
  · rw [h1]
    have : cutW l = (l.take n, l.drop (n + 1), true) := by unfold cutW; rw [h2]; rfl
    rw [this]
    refine vcIf_dec (fun h => ?_) (fun h => by omega)
    rw [i64_id (x := (n : Int) + ((1 : Nat) : Int)) (by omega) (by omega)]
    refine ⟨by omega, by omega, ?_⟩
    have e1 : ((n : Int) + ((1 : Nat) : Int)).toNat = n + 1 := by omega
    rw [e1]
    simp [List.take_of_length_le]
set_option maxRecDepth 100000 in
theorem cut_n (l : List UInt8) (hl : l.length < 10000000) : Meets Tryz.prog Gd 120 [strP l, strP [47]] (.tup [strP (cutW l).1, strP (cutW l).2.1, .val (.bool (cutW l).2.2)]) := by
  refine meets_of_vc (Y := {}) (N := 13) (rs := [.tmp 4, .tmp 5, .tmp 6]) mix tk gd Tryz.func120 rfl (by kernel_rfl) rfl rfl (by simp) (by kernel_rfl) ?_
  simp (maxSteps := 10000000) only [↓sx, sx, ↓reduceIte, Nat.reduceEqDiff, pc]
  refine CallT.mk (cuts_n l hl) ?_
  simp (maxSteps := 10000000) only [↓sx, sx, ↓reduceIte, Nat.reduceEqDiff, pc]
set_option maxRecDepth 100000 in
theorem ftext_n (x : Rat) (hx : Sz 50000 x) : Meets Tryz.prog Gd 92 [frP x] (rtP x) := by
  refine meets_of_vc (Y := {}) (N := 14) (rs := [.tmp 2]) mix tk gd Tryz.func92 rfl (by kernel_rfl) rfl rfl (by simp) (by kernel_rfl) ?_
  simp (maxSteps := 10000000) only [↓sx, sx, ↓ty, ↓reduceIte, Nat.reduceEqDiff, Nat.reduceAdd, ne_eq, not_false_eq_true, pc, ls, Nat.reduceAdd, pd, dec_eq1]
  have l1 := iD_len x.num
  have l2 := dec_len x.den
  have := hx.1; have := hx.2
  unfold rT
  refine vcIf_dec (fun h => ?_) (fun h => ?_)
  · rw [if_pos h]
  · rw [if_neg h]
    simp
    omega
set_option maxRecDepth 100000 in
theorem divisor_n (p : Int) (q : Nat) (hp : Lw p.natAbs < 100000) (hq : Lw q < 100000) : Meets Tryz.prog Gd 121 [siP p, dP q] (dP (Nat.gcd p.natAbs q)) := by
  refine meets_of_vc (Y := {}) (N := 21) (rs := [.tmp 4]) mix tk gd Tryz.func121 rfl (by kernel_rfl) rfl rfl (by simp) (by kernel_rfl) ?_
  simp (maxSteps := 10000000) only [↓sx, sx, ↓reduceIte, Nat.reduceEqDiff, pc]
  refine CallT.mk (iabs_n p hp) ?_
  simp (maxSteps := 10000000) only [↓sx, sx, ↓reduceIte, Nat.reduceEqDiff, pc]
  refine CallT.mk (ngcdt_n p.natAbs q hp hq) ?_
  simp (maxSteps := 10000000) only [↓sx, sx, ↓reduceIte, Nat.reduceEqDiff, pc]
set_option maxRecDepth 100000 in
theorem lowestp_n (p : Int) (q : Nat) (x : Rat) (hq : q ≠ 0) (h1 : Lw p.natAbs < 100000) (h2 : Lw q < 100000) (hx : Rat.normalize p q hq = x) : Meets Tryz.prog Gd 91 [siP p, dP q] (frP x) := by
  refine meets_of_vc (Y := {}) (N := 28) (rs := [.cell 4 96]) mix tk gd Tryz.func91 rfl (by kernel_rfl) rfl rfl (by simp) (by kernel_rfl) ?_
  have x1 : x.num = p / (p.natAbs.gcd q : Nat) := by rw [← hx, Rat.num_normalize]
  have x2 : x.den = q / p.natAbs.gcd q := by rw [← hx, Rat.den_normalize]
  clear hx
  simp (maxSteps := 10000000) only [↓sx, sx, ↓ty, ↓reduceIte, Nat.reduceEqDiff, pc]
  refine CallT.mk (divisor_n p q h1 h2) ?_
  have hdv : p.natAbs.gcd q ∣ p.natAbs := Nat.gcd_dvd_left _ _
  have hg0 : 0 < p.natAbs.gcd q := Nat.gcd_pos_of_pos_right _ (by omega)
  have hgl : Lw (p.natAbs.gcd q) ≤ Lw q := Lw_mono (Nat.gcd_le_right _ (by omega))
  generalize p.natAbs.gcd q = g at *
  simp (maxSteps := 10000000) only [↓sx, sx, ↓ty, ↓reduceIte, Nat.reduceEqDiff, Nat.reduceAdd, Nat.reduceLeDiff, pc, ls, bs, and_self, Nat.reduceAdd, Nat.le_refl, pd, dec_eq1]
  by_cases h1g : g = 1
  · subst h1g
    refine vcIf_b (fun h => by simp at h) (fun h => ?_)
    rw [x1, x2]
    simp
  · refine vcIf_b (fun h => ?_) (fun h => by simp [h1g] at h)
    refine CallT.to (idivmod_n p (g : Int) h1 (by rw [Int.natAbs_natCast]; omega) (by omega)) (by rw [siP_nat]; rfl) ?_
    simp (maxSteps := 10000000) only [↓sx, sx, ↓reduceIte, Nat.reduceEqDiff, pc]
    refine CallT.mk (ndivmod_n q g h2 (by omega) hg0) ?_
    simp (maxSteps := 10000000) only [↓sx, sx, ↓ty, ↓reduceIte, Nat.reduceEqDiff, Nat.reduceAdd, Nat.reduceLeDiff, pc, ls, bs, and_self, Nat.reduceAdd, Nat.le_refl, pd]
    rw [x1, x2]
end Go.Proofs.YthhefojkkgjcfaaGreatDoor.S
namespace Go.Proofs.YthhefojkkgjcfaaGreatDoor.S
open Go Go.Sx Go.RowKit Gb Go.Shelf
set_option maxRecDepth 100000 in
theorem fsign_n (x : Rat) (hx : Sz 50000 x) : Meets Tryz.prog Gd 64 [frP x] (iP x.num.sign) := by
  refine meets_of_vc (Y := {}) (N := 12) (rs := [.tmp 2]) mix tk gd Tryz.func64 rfl (by kernel_rfl) rfl rfl (by simp) (by kernel_rfl) ?_
  simp (maxSteps := 10000000) only [↓sx, sx, ↓ty, ↓reduceIte, Nat.reduceEqDiff, Nat.reduceAdd, ne_eq, not_false_eq_true, ls, Nat.reduceAdd, pd]
  refine CallT.mk (isignt_n x.num (by have := hx.1; omega)) ?_
  simp (maxSteps := 10000000) only [↓sx, sx, ↓reduceIte, Nat.reduceEqDiff, pc]
set_option maxRecDepth 100000 in
theorem ffloor_n (x : Rat) (hx : Sz 50000 x) : Meets Tryz.prog Gd 157 [frP x] (siP x.floor) := by
  refine meets_of_vc (Y := {}) (N := 16) (rs := [.tmp 2]) mix tk gd Tryz.func157 rfl (by kernel_rfl) rfl rfl (by simp) (by kernel_rfl) ?_
  simp (maxSteps := 10000000) only [↓sx, sx, ↓ty, ↓reduceIte, Nat.reduceEqDiff, Nat.reduceAdd, ne_eq, not_false_eq_true, ls, Nat.reduceAdd, pd]
  refine CallT.to (idivmod_n x.num (x.den : Int) (by have := hx.1; omega) (by have := hx.2; rw [Int.natAbs_natCast]; omega) (by have := x.den_nz; omega)) (by rw [siP_nat]; rfl) ?_
  simp (maxSteps := 10000000) only [↓sx, sx, ↓reduceIte, Nat.reduceEqDiff, pc]
  rw [Rat.floor_def]
theorem parseI_n (z : Int) (h1 : -1000000000 < z) (h2 : z < 1000000000) : Meets Tryz.prog Gd 224 [siP z, iP 10, iP 64] (.tup [iP z, .val .nilIface]) := by
  refine meets_val [.string ⟨(iD z).toArray⟩, .int .i64 10, .int .i64 64] (.tuple ⟨[.int .i64 z, .nilIface]⟩) (enters_of Tryz.func224 (by kernel_rfl) rfl) ?_ ?_
  · intro B w
    simp [iP, RepP, RepL]
  · intro w _
    have := iD_len z
    have hl : Lw z.natAbs ≤ 1 := Lw_le (by show z.natAbs < 1000000000 ^ 1; omega)
    refine (Tryz.strconv_ParseInt_10_at64_ok ⟨(iD z).toArray⟩ (by show (iD z).toArray.size ≤ _; simp; omega) z (parseI z h1 h2) w).mono ?_
    rintro e w' ⟨rfl, hw⟩
    refine ⟨rfl, ?_⟩
    rcases hw with rfl | ⟨t, rfl⟩
    · exact Below.refl _ _
    · exact Lib.bytesWorld_below _ _ _
theorem formatI_n (z : Int) (h1 : -9223372036854775808 ≤ z) (h2 : z ≤ 9223372036854775807) : Meets Tryz.prog Gd 225 [iP z, iP 10] (siP z) := by
  refine meets_val [.int .i64 z, .int .i64 10] (.string ⟨(iD z).toArray⟩) (enters_of Tryz.func225 (by kernel_rfl) rfl) ?_ ?_
  · intro B w
    simp [siP_c, RepP]
  · intro w hw
    refine (Tryz.strconv_FormatInt_10 z h1 h2 w hw).mono ?_
    rintro e w' ⟨rfl, k, os, rfl⟩
    rw [itoa_iD]
    exact ⟨rfl, Lib.below_grow _ w (Nat.le_refl _) k os⟩
end Go.Proofs.YthhefojkkgjcfaaGreatDoor.S
namespace Go.Proofs.YthhefojkkgjcfaaGreatDoor.S
open Go Go.Sx Go.RowKit Gb Go.Shelf
set_option maxRecDepth 100000 in
set_option maxHeartbeats 4000000 in
theorem fread_n (l : List UInt8) (hl : l.length < 300000) : Meets Tryz.prog Gd 61 [strP l] (.tup [.agg [strP (splitM l).1, strP (splitM l).2.1], .val (.bool (isRat l))]) := by
  have hlen := splitM_len l
  have hs := splitM_inv l
  have hR : isRat l = (isInt (splitM l).1 && isNat (splitM l).2.1 && (!(splitM l).2.2 || (decide (1 < natOf (splitM l).2.1) && decide (intOf (splitM l).1 ≠ 0) && decide (Nat.gcd (intOf (splitM l).1).natAbs (natOf (splitM l).2.1) = 1)))) := rfl
  refine meets_of_vc (Y := {}) (N := 48) (rs := [.cell 2 96, .tmp 3]) mix tk gd Tryz.func61 rfl (by kernel_rfl) rfl rfl (by simp) (by kernel_rfl) ?_
  simp (maxSteps := 10000000) only [↓sx, sx, ↓ty, ↓reduceIte, Nat.reduceEqDiff, pc]
  refine CallT.mk (cut_n l (by omega)) ?_
  have hc : cutW l = if (splitM l).2.2 then splitM l else (l, [], false) := rfl
  rw [hc]
  clear hc
  generalize splitM l = q at *
  obtain ⟨p, d, s⟩ := q
  dsimp only at *
  cases s with
  | false =>
    have h3 : p = l ∧ d = [49] := by
      rcases hs with ⟨h, _⟩ | ⟨_, h, h2⟩
      · cases h
      · exact ⟨h.symm, h2⟩
    obtain ⟨rfl, rfl⟩ := h3
    simp only [Bool.false_eq_true, if_false]
    simp (maxSteps := 10000000) only [↓sx, sx, ↓ty, ↓reduceIte, Nat.reduceEqDiff, Nat.reduceAdd, Nat.reduceLeDiff, pc, ls, bs, and_self, Nat.reduceAdd, Nat.le_refl]
    refine CallT.mk (ivalid_n p (by omega)) ?_
    simp (maxSteps := 10000000) only [↓sx, sx, ↓ty, ↓reduceIte, Nat.reduceEqDiff, Nat.reduceAdd, pc, ls, bs, and_self, Nat.reduceAdd, Nat.le_refl]
    rw [hR]
    simp [show isNat [49] = true from by decide]
  | true =>
    simp only [if_true]
    simp (maxSteps := 10000000) only [↓sx, sx, ↓reduceIte, Nat.reduceEqDiff, pc]
    refine CallT.mk (ivalid_n p (by omega)) ?_
    simp (maxSteps := 10000000) only [↓sx, sx, ↓ty, ↓reduceIte, Nat.reduceEqDiff, Nat.reduceAdd, Nat.reduceLeDiff, Nat.reduceLT, pc, ls, bs, and_self, Nat.reduceAdd, Nat.le_refl]
    cases hp : isInt p with
    | false =>
      rw [hp] at hR
      simp only [Bool.false_and] at hR
      simp (maxSteps := 10000000) only [↓sx, sx]
      rw [hR]
    | true =>
      obtain ⟨z, rfl⟩ : ∃ z, p = iD z := ⟨_, (iD_intOf hp).symm⟩
      rw [intOf_iD, hp] at hR
      have lp := Lw_intOf hp
      rw [intOf_iD] at lp
      by_cases hz : z = 0
      · have hR : isRat l = false := by rw [hR]; simp [hz]
        have e1 : (iD z == [48]) = true := by rw [iD_eq0]; simp [hz]
        simp (maxSteps := 10000000) only [↓sx, sx, bs, e1]
        rw [hR]
      · have e1 : (iD z == [48]) = false := by rw [iD_eq0]; simp [hz]
        simp (maxSteps := 10000000) only [↓sx, sx, bs, e1]
        refine CallT.mk (nvalid_n d (by omega)) ?_
        simp (maxSteps := 10000000) only [↓sx, sx, ↓ty, ↓reduceIte, Nat.reduceEqDiff, Nat.reduceAdd, Nat.reduceLeDiff, Nat.reduceLT, pc, ls, bs, and_self, Nat.reduceAdd, Nat.le_refl]
        cases hd : isNat d with
        | false =>
          rw [hd] at hR
          simp only [Bool.false_and, Bool.and_false] at hR
          simp (maxSteps := 10000000) only [↓sx, sx]
          rw [hR]
        | true =>
          obtain ⟨n, rfl⟩ : ∃ n, d = Lib.decDigits n := ⟨_, (dec_natOf hd).symm⟩
          rw [natOf_dec, hd] at hR
          have ld := Lw_natOf (isNat_iff.1 hd).2.1
          rw [natOf_dec] at ld
          by_cases n0 : n = 0
          · have hR : isRat l = false := by rw [hR]; simp [n0]
            have e2 : (Lib.decDigits n == [48]) = true := by rw [dec_eq0]; simp [n0]
            simp (maxSteps := 10000000) only [↓sx, sx, bs, e2]
            rw [hR]
          · have e2 : (Lib.decDigits n == [48]) = false := by rw [dec_eq0]; simp [n0]
            by_cases n1 : n = 1
            · have hR : isRat l = false := by rw [hR]; simp [n1]
              have e3 : (Lib.decDigits n == [49]) = true := by rw [dec_eq1]; simp [n1]
              simp (maxSteps := 10000000) only [↓sx, sx, bs, e2, e3]
              rw [hR]
            · have e3 : (Lib.decDigits n == [49]) = false := by rw [dec_eq1]; simp [n1]
              simp (maxSteps := 10000000) only [↓sx, sx, bs, e2, e3]
              refine CallT.mk (divisor_n z n (by omega) (by omega)) ?_
              simp (maxSteps := 10000000) only [↓sx, sx, ↓ty, ↓reduceIte, Nat.reduceEqDiff, Nat.reduceAdd, Nat.reduceLeDiff, Nat.reduceLT, pc, ls, bs, and_self, Nat.reduceAdd, Nat.le_refl, dec_eq1]
              rw [hR]
              have : 1 < n := by omega
              simp [hz, this]
set_option maxRecDepth 100000 in
set_option maxHeartbeats 4000000 in
theorem flittle_s (x : Rat) (h : shortQ x = true) : Meets Tryz.prog Gd 212 [frP x] (.tup [iP x.num, iP x.den, .val (.bool true)]) := by
  have hs := shortQ_spec h
  unfold shortQ at h
  simp only [Bool.and_eq_true, decide_eq_true_eq] at h
  refine meets_of_vc (Y := {}) (N := 33) (rs := [.tmp 2, .tmp 3, .tmp 4]) mix tk gd Tryz.func212 rfl (by kernel_rfl) rfl rfl (by simp) (by kernel_rfl) ?_
  have e1 : decide (((iD x.num).length : Int) > 9) = false := by simp; omega
  have e2 : decide (((Lib.decDigits x.den).length : Int) > 9) = false := by simp; omega
  simp (maxSteps := 10000000) only [↓sx, sx, ↓ty, ↓reduceIte, Nat.reduceEqDiff, Nat.reduceAdd, Nat.reduceLT, ne_eq, not_false_eq_true, ls, Nat.reduceAdd, pd, e1, e2]
  refine CallT.mk (parseI_n x.num (by omega) (by omega)) ?_
  simp (maxSteps := 10000000) only [↓sx, sx, ↓ty, ↓reduceIte, Nat.reduceEqDiff, Nat.reduceAdd, ne_eq, not_false_eq_true, pc, ls, Nat.reduceAdd]
  refine CallT.to (parseI_n (x.den : Int) (by omega) (by omega)) (by rw [siP_nat]; rfl) ?_
  simp (maxSteps := 10000000) only [↓sx, sx, ↓reduceIte, Nat.reduceEqDiff, pc]
set_option maxRecDepth 100000 in
set_option maxHeartbeats 4000000 in
theorem flittle_l (x : Rat) (h : shortQ x = false) : Meets Tryz.prog Gd 212 [frP x] (.tup [iP 0, iP 0, .val (.bool false)]) := by
  unfold shortQ at h
  simp only [Bool.and_eq_false_iff, decide_eq_false_iff_not] at h
  refine meets_of_vc (Y := {}) (N := 33) (rs := [.tmp 2, .tmp 3, .tmp 4]) mix tk gd Tryz.func212 rfl (by kernel_rfl) rfl rfl (by simp) (by kernel_rfl) ?_
  by_cases h1 : (iD x.num).length ≤ 9
  · have e1 : decide (((iD x.num).length : Int) > 9) = false := by simp; omega
    have e2 : decide (((Lib.decDigits x.den).length : Int) > 9) = true := by simp; omega
    simp (maxSteps := 10000000) only [↓sx, sx, ↓ty, ↓reduceIte, Nat.reduceEqDiff, Nat.reduceAdd, Nat.reduceLT, ne_eq, not_false_eq_true, pc, ls, and_self, Nat.reduceAdd, pd, e1, e2]
  · have e1 : decide (((iD x.num).length : Int) > 9) = true := by simp; omega
    simp (maxSteps := 10000000) only [↓sx, sx, ↓ty, ↓reduceIte, Nat.reduceEqDiff, Nat.reduceAdd, Nat.reduceLT, ne_eq, not_false_eq_true, pc, ls, and_self, Nat.reduceAdd, pd, e1]
end Go.Proofs.YthhefojkkgjcfaaGreatDoor.S
namespace Go.Proofs.YthhefojkkgjcfaaGreatDoor.S
open Go Go.Sx Go.RowKit Gb Go.Shelf
set_option maxRecDepth 100000 in
set_option maxHeartbeats 4000000 in
theorem fof_n (p : Int) (q : Nat) (x : Rat) (hq : q ≠ 0) (h1 : p.natAbs < 4611686018427387904) (h2 : q < 4611686018427387904) (hx : Rat.normalize p q hq = x) : Meets Tryz.prog Gd 213 [iP p, iP q] (frP x) := by
  have x1 : x.num = p / (p.natAbs.gcd q : Nat) := by rw [← hx, Rat.num_normalize]
  have x2 : x.den = q / p.natAbs.gcd q := by rw [← hx, Rat.den_normalize]
  have hdv : p.natAbs.gcd q ∣ p.natAbs := Nat.gcd_dvd_left _ _
  have hdq : p.natAbs.gcd q ∣ q := Nat.gcd_dvd_right _ _
  have hg0 : 0 < p.natAbs.gcd q := Nat.gcd_pos_of_pos_right _ (by omega)
  have hgl : p.natAbs.gcd q ≤ q := Nat.gcd_le_right _ (by omega)
  clear hx
  refine meets_of_vc (Y := {}) (N := 28) (rs := [.cell 4 96]) mix tk gd Tryz.func213 rfl (by kernel_rfl) rfl rfl (by simp) (by kernel_rfl) ?_
  simp (maxSteps := 10000000) only [↓sx, sx, ↓ty, ↓reduceIte, Nat.reduceEqDiff, pc]
  refine loopK_of (fun s : Int × Int => [(0, .p (.val (.int .i64 p))), (1, .p (.val (.int .i64 q))), (4, .box 4 0), (5, .p (.val (.int .i64 s.1))), (6, .p (.val (.int .i64 s.2)))]) (fun _ => [(4, (96, [.val (.string ⟨#[]⟩), .val (.string ⟨#[]⟩)]))]) (fun _ => []) (fun s => s.1.natAbs < 4611686018427387904 ∧ s.2.natAbs < 4611686018427387904 ∧ s.1.natAbs.gcd s.2.natAbs = p.natAbs.gcd q) (fun s => s.2.natAbs) (p, (q : Int)) ⟨h1, by simpa using h2, by simp⟩ ?_ ?_
  · simp (maxSteps := 10000000) only [isE_nil, is_cons, bo_p, bo_box, any_cons', all_cons', all_nil', Bool.true_or, ↓sx, sx, ↓reduceIte, Nat.reduceEqDiff]
    exact ⟨rfl, rfl⟩
  · rintro ⟨a, b⟩ ⟨i1, i2, i3⟩
    dsimp only at i1 i2 i3
    simp (maxSteps := 10000000) only [↓sx, sx, ↓reduceIte, Nat.reduceEqDiff, ls]
    refine vcIf_b (fun hb => ?_) (fun hb => ?_)
    · have hb : b ≠ 0 := by simpa using hb
      have hm := tmod_natAbs a b
      have hlt : (a.tmod b).natAbs < b.natAbs := by rw [hm]; exact Nat.mod_lt _ (by omega)
      refine ⟨hb, NextK.mk (b, a.tmod b) hlt ⟨i2, by show (a.tmod b).natAbs < _; omega, ?_⟩ ?_⟩
      · show b.natAbs.gcd (a.tmod b).natAbs = _
        rw [hm, Nat.gcd_comm, ← Nat.gcd_rec, Nat.gcd_comm, i3]
      · simp (maxSteps := 10000000) only [isE_nil, is_cons, bo_p, bo_box, any_cons', all_cons', all_nil', Bool.true_or, ↓sx, sx, ↓reduceIte, Nat.reduceEqDiff]
    · have hb : b = 0 := by simpa using hb
      subst hb
      rw [Int.natAbs_zero, Nat.gcd_zero_right] at i3
      generalize p.natAbs.gcd q = g at *
      have e1 : (if IntKind.i64.wrap (0 - a) > a then IntKind.i64.wrap (0 - a) else a) = (g : Int) := by
        rw [i64_id (by omega) (by omega)]
        split <;> omega
      simp (maxSteps := 10000000) only [Int.reduceBNe, e1]
      have hgi : ¬ (g : Int) = 0 := by omega
      refine ⟨hgi, ?_⟩
      have q1 : p.tdiv g = p / g := tdiv_dvd hdv
      have q2 : (q : Int).tdiv g = ((q / g : Nat) : Int) := by rw [Int.ofNat_tdiv]
      have b1 : (p / (g : Int)).natAbs ≤ p.natAbs := by rw [Int.natAbs_ediv_of_dvd (Int.ofNat_dvd_left.2 hdv)]; exact Nat.div_le_self _ _
      have b2 : q / g ≤ q := Nat.div_le_self _ _
      rw [q1, i64_id (x := p / (g : Int)) (by omega) (by omega)]
      refine CallT.mk (formatI_n (p / (g : Int)) (by omega) (by omega)) ?_
      simp (maxSteps := 10000000) only [↓sx, sx, ↓reduceIte, Nat.reduceEqDiff, e1]
      refine ⟨hgi, ?_⟩
      rw [q2, i64_id (x := ((q / g : Nat) : Int)) (by omega) (by omega)]
      refine CallT.mk (formatI_n ((q / g : Nat) : Int) (by omega) (by omega)) ?_
      simp (maxSteps := 10000000) only [↓sx, sx, ↓ty, ↓reduceIte, Nat.reduceEqDiff, Nat.reduceAdd, Nat.reduceLeDiff, pc, ls, bs, and_self, Nat.reduceAdd, Nat.le_refl, pd]
      rw [x1, x2, iD_nat]
theorem scale_lt {a b : Int} {k m : Nat} (ha : a.natAbs < k) (hb : b.natAbs < m) (hk : 0 < k) : (a * b).natAbs < k * m := by
  rw [Int.natAbs_mul]
  have h1 : a.natAbs * b.natAbs ≤ a.natAbs * m := Nat.mul_le_mul_left _ (by omega)
  have h2 : a.natAbs * m < k * m := Nat.mul_lt_mul_of_pos_right ha (by omega)
  omega
set_option maxRecDepth 100000 in
set_option maxHeartbeats 4000000 in
theorem fplus_n (x y : Rat) (hx : Sz 20000 x) (hy : Sz 20000 y) : Meets Tryz.prog Gd 187 [frP x, frP y] (frP (x + y)) := by
  have a1 := hx.1
  have a2 := hx.2
  have a3 := hy.1
  have a4 := hy.2
  have b4 := Lw_mul x.den y.den
  have b5 := Lw_iadd (x.num * y.den) (y.num * x.den)
  have b6 := Lw_imul x.num y.den
  have b7 := Lw_imul y.num x.den
  rw [Int.natAbs_natCast] at b6 b7
  have hd0 := Nat.mul_ne_zero x.den_nz y.den_nz
  refine meets_of_vc (Y := {}) (N := 77) (rs := [.cell 4 96]) mix tk gd Tryz.func187 rfl (by kernel_rfl) rfl rfl (by simp) (by kernel_rfl) ?_
  simp (maxSteps := 10000000) only [↓sx, sx, ↓ty, ↓reduceIte, Nat.reduceEqDiff, Nat.reduceAdd, ls, Nat.reduceAdd, Nat.le_refl, pd]
  by_cases hb : shortQ x = true ∧ shortQ y = true
  · have s1 := shortQ_spec hb.1
    have s2 := shortQ_spec hb.2
    refine CallT.mk (flittle_s x hb.1) ?_
    simp (maxSteps := 10000000) only [↓sx, sx, ↓ty, ↓reduceIte, Nat.reduceEqDiff, Nat.reduceAdd, pc, ls, Nat.reduceAdd, Nat.le_refl]
    refine CallT.mk (flittle_s y hb.2) ?_
    simp (maxSteps := 10000000) only [↓sx, sx, ↓reduceIte, Nat.reduceEqDiff, Nat.reduceLT, pc]
    have m1 := scale_lt (a := x.num) (b := y.den) (k := 1000000000) (m := 1000000000) (by omega) (by omega) (by omega)
    have m2 := scale_lt (a := y.num) (b := x.den) (k := 1000000000) (m := 1000000000) (by omega) (by omega) (by omega)
    have m3 := scale_lt (a := x.den) (b := y.den) (k := 1000000000) (m := 1000000000) (by omega) (by omega) (by omega)
    have m4 : (x.den : Int) * y.den = ((x.den * y.den : Nat) : Int) := by rw [Int.natCast_mul]
    obtain ⟨D, hD⟩ : ∃ D, D = x.den * y.den := ⟨_, rfl⟩
    have hD0 : D ≠ 0 := by rw [hD]; exact hd0
    obtain ⟨X, hX⟩ : ∃ X, X = x.num * (y.den : Int) := ⟨_, rfl⟩
    obtain ⟨Y, hY⟩ : ∃ Y, Y = y.num * (x.den : Int) := ⟨_, rfl⟩
    have hdef : Rat.normalize (X + Y) D hD0 = x + y := by subst hD hX hY; exact (Rat.add_def x y).symm
    rw [m4, ← hD] at m3 ⊢
    rw [← hX] at m1 ⊢
    rw [← hY] at m2 ⊢
    clear hD hX hY m4 b4 b5 b6 b7 hd0
    rw [i64_id (x := X) (by omega) (by omega), i64_id (x := Y) (by omega) (by omega), i64_id (x := X + Y) (by omega) (by omega), i64_id (x := (D : Int)) (by omega) (by omega)]
    refine CallT.mk (fof_n (X + Y) D (x + y) hD0 (by omega) (by omega) hdef) ?_
    simp (maxSteps := 10000000) only [↓sx, sx, ↓ty, ↓reduceIte, Nat.reduceEqDiff, Nat.reduceAdd, ls, bs, and_self, Nat.reduceAdd, Nat.le_refl, pd]
  · cases hsx : shortQ x with
    | false =>
      refine CallT.mk (flittle_l x hsx) ?_
      simp (maxSteps := 10000000) only [↓sx, sx, ↓ty, ↓reduceIte, Nat.reduceEqDiff, Nat.reduceAdd, pc, ls, Nat.reduceAdd, Nat.le_refl]
      cases hsy : shortQ y with
      | false =>
        refine CallT.mk (flittle_l y hsy) ?_
        simp (maxSteps := 10000000) only [↓sx, sx, ↓ty, ↓reduceIte, Nat.reduceEqDiff, Nat.reduceAdd, Nat.reduceLT, ne_eq, not_false_eq_true, pc, ls, Nat.reduceAdd]
        refine CallT.to (imul_n x.num (y.den : Int) (by omega) (by rw [Int.natAbs_natCast]; omega)) (by rw [siP_nat]; rfl) ?_
        simp (maxSteps := 10000000) only [↓sx, sx, ↓ty, ↓reduceIte, Nat.reduceEqDiff, Nat.reduceAdd, ne_eq, not_false_eq_true, pc, ls, Nat.reduceAdd]
        refine CallT.to (imul_n y.num (x.den : Int) (by omega) (by rw [Int.natAbs_natCast]; omega)) (by rw [siP_nat]; rfl) ?_
        simp (maxSteps := 10000000) only [↓sx, sx, ↓reduceIte, Nat.reduceEqDiff, pc]
        refine CallT.mk (iadd_n (x.num * y.den) (y.num * x.den) (by omega) (by omega)) ?_
        simp (maxSteps := 10000000) only [↓sx, sx, ↓ty, ↓reduceIte, Nat.reduceEqDiff, Nat.reduceAdd, ne_eq, not_false_eq_true, pc, ls, Nat.reduceAdd]
        refine CallT.mk (nmul_n x.den y.den (by omega) (by omega)) ?_
        simp (maxSteps := 10000000) only [↓sx, sx, ↓reduceIte, Nat.reduceEqDiff, pc]
        refine CallT.mk (lowestp_n (x.num * y.den + y.num * x.den) (x.den * y.den) (x + y) hd0 (by omega) (by omega) (Rat.add_def x y).symm) ?_
        simp (maxSteps := 10000000) only [↓sx, sx, ↓ty, ↓reduceIte, Nat.reduceEqDiff, Nat.reduceAdd, ls, bs, and_self, Nat.reduceAdd, Nat.le_refl, pd]
      | true =>
        refine CallT.mk (flittle_s y hsy) ?_
        simp (maxSteps := 10000000) only [↓sx, sx, ↓ty, ↓reduceIte, Nat.reduceEqDiff, Nat.reduceAdd, Nat.reduceLT, ne_eq, not_false_eq_true, pc, ls, Nat.reduceAdd]
        refine CallT.to (imul_n x.num (y.den : Int) (by omega) (by rw [Int.natAbs_natCast]; omega)) (by rw [siP_nat]; rfl) ?_
        simp (maxSteps := 10000000) only [↓sx, sx, ↓ty, ↓reduceIte, Nat.reduceEqDiff, Nat.reduceAdd, ne_eq, not_false_eq_true, pc, ls, Nat.reduceAdd]
        refine CallT.to (imul_n y.num (x.den : Int) (by omega) (by rw [Int.natAbs_natCast]; omega)) (by rw [siP_nat]; rfl) ?_
        simp (maxSteps := 10000000) only [↓sx, sx, ↓reduceIte, Nat.reduceEqDiff, pc]
        refine CallT.mk (iadd_n (x.num * y.den) (y.num * x.den) (by omega) (by omega)) ?_
        simp (maxSteps := 10000000) only [↓sx, sx, ↓ty, ↓reduceIte, Nat.reduceEqDiff, Nat.reduceAdd, ne_eq, not_false_eq_true, pc, ls, Nat.reduceAdd]
        refine CallT.mk (nmul_n x.den y.den (by omega) (by omega)) ?_
        simp (maxSteps := 10000000) only [↓sx, sx, ↓reduceIte, Nat.reduceEqDiff, pc]
        refine CallT.mk (lowestp_n (x.num * y.den + y.num * x.den) (x.den * y.den) (x + y) hd0 (by omega) (by omega) (Rat.add_def x y).symm) ?_
        simp (maxSteps := 10000000) only [↓sx, sx, ↓ty, ↓reduceIte, Nat.reduceEqDiff, Nat.reduceAdd, ls, bs, and_self, Nat.reduceAdd, Nat.le_refl, pd]
    | true =>
      refine CallT.mk (flittle_s x hsx) ?_
      simp (maxSteps := 10000000) only [↓sx, sx, ↓ty, ↓reduceIte, Nat.reduceEqDiff, Nat.reduceAdd, pc, ls, Nat.reduceAdd, Nat.le_refl]
      have hsy : shortQ y = false := by cases h : shortQ y with | false => rfl | true => exact absurd ⟨hsx, h⟩ hb
      refine CallT.mk (flittle_l y hsy) ?_
      simp (maxSteps := 10000000) only [↓sx, sx, ↓ty, ↓reduceIte, Nat.reduceEqDiff, Nat.reduceAdd, Nat.reduceLT, ne_eq, not_false_eq_true, pc, ls, Nat.reduceAdd]
      refine CallT.to (imul_n x.num (y.den : Int) (by omega) (by rw [Int.natAbs_natCast]; omega)) (by rw [siP_nat]; rfl) ?_
      simp (maxSteps := 10000000) only [↓sx, sx, ↓ty, ↓reduceIte, Nat.reduceEqDiff, Nat.reduceAdd, ne_eq, not_false_eq_true, pc, ls, Nat.reduceAdd]
      refine CallT.to (imul_n y.num (x.den : Int) (by omega) (by rw [Int.natAbs_natCast]; omega)) (by rw [siP_nat]; rfl) ?_
      simp (maxSteps := 10000000) only [↓sx, sx, ↓reduceIte, Nat.reduceEqDiff, pc]
      refine CallT.mk (iadd_n (x.num * y.den) (y.num * x.den) (by omega) (by omega)) ?_
      simp (maxSteps := 10000000) only [↓sx, sx, ↓ty, ↓reduceIte, Nat.reduceEqDiff, Nat.reduceAdd, ne_eq, not_false_eq_true, pc, ls, Nat.reduceAdd]
      refine CallT.mk (nmul_n x.den y.den (by omega) (by omega)) ?_
      simp (maxSteps := 10000000) only [↓sx, sx, ↓reduceIte, Nat.reduceEqDiff, pc]
      refine CallT.mk (lowestp_n (x.num * y.den + y.num * x.den) (x.den * y.den) (x + y) hd0 (by omega) (by omega) (Rat.add_def x y).symm) ?_
      simp (maxSteps := 10000000) only [↓sx, sx, ↓ty, ↓reduceIte, Nat.reduceEqDiff, Nat.reduceAdd, ls, bs, and_self, Nat.reduceAdd, Nat.le_refl, pd]
set_option maxRecDepth 100000 in
set_option maxHeartbeats 4000000 in
theorem ftimes_n (x y : Rat) (hx : Sz 20000 x) (hy : Sz 20000 y) : Meets Tryz.prog Gd 188 [frP x, frP y] (frP (x * y)) := by
  have a1 := hx.1
  have a2 := hx.2
  have a3 := hy.1
  have a4 := hy.2
  have b4 := Lw_mul x.den y.den
  have b6 := Lw_imul x.num y.num
  have hd0 := Nat.mul_ne_zero x.den_nz y.den_nz
  refine meets_of_vc (Y := {}) (N := 57) (rs := [.cell 4 96]) mix tk gd Tryz.func188 rfl (by kernel_rfl) rfl rfl (by simp) (by kernel_rfl) ?_
  simp (maxSteps := 10000000) only [↓sx, sx, ↓ty, ↓reduceIte, Nat.reduceEqDiff, Nat.reduceAdd, ls, Nat.reduceAdd, Nat.le_refl, pd]
  by_cases hb : shortQ x = true ∧ shortQ y = true
  · have s1 := shortQ_spec hb.1
    have s2 := shortQ_spec hb.2
    refine CallT.mk (flittle_s x hb.1) ?_
    simp (maxSteps := 10000000) only [↓sx, sx, ↓ty, ↓reduceIte, Nat.reduceEqDiff, Nat.reduceAdd, pc, ls, Nat.reduceAdd, Nat.le_refl]
    refine CallT.mk (flittle_s y hb.2) ?_
    simp (maxSteps := 10000000) only [↓sx, sx, ↓reduceIte, Nat.reduceEqDiff, Nat.reduceLT, pc]
    have m1 := scale_lt (a := x.num) (b := y.num) (k := 1000000000) (m := 1000000000) (by omega) (by omega) (by omega)
    have m3 := scale_lt (a := x.den) (b := y.den) (k := 1000000000) (m := 1000000000) (by omega) (by omega) (by omega)
    have m4 : (x.den : Int) * y.den = ((x.den * y.den : Nat) : Int) := by rw [Int.natCast_mul]
    obtain ⟨D, hD⟩ : ∃ D, D = x.den * y.den := ⟨_, rfl⟩
    have hD0 : D ≠ 0 := by rw [hD]; exact hd0
    obtain ⟨X, hX⟩ : ∃ X, X = x.num * y.num := ⟨_, rfl⟩
    have hdef : Rat.normalize X D hD0 = x * y := by subst hD hX; exact (Rat.mul_def x y).symm
    rw [m4, ← hD] at m3 ⊢
    rw [← hX] at m1 ⊢
    clear hD hX m4 b4 b6 hd0
    rw [i64_id (x := X) (by omega) (by omega), i64_id (x := (D : Int)) (by omega) (by omega)]
    refine CallT.mk (fof_n X D (x * y) hD0 (by omega) (by omega) hdef) ?_
    simp (maxSteps := 10000000) only [↓sx, sx, ↓ty, ↓reduceIte, Nat.reduceEqDiff, Nat.reduceAdd, ls, bs, and_self, Nat.reduceAdd, Nat.le_refl, pd]
  · cases hsx : shortQ x with
    | false =>
      refine CallT.mk (flittle_l x hsx) ?_
      simp (maxSteps := 10000000) only [↓sx, sx, ↓ty, ↓reduceIte, Nat.reduceEqDiff, Nat.reduceAdd, pc, ls, Nat.reduceAdd, Nat.le_refl]
      cases hsy : shortQ y with
      | false =>
        refine CallT.mk (flittle_l y hsy) ?_
        simp (maxSteps := 10000000) only [↓sx, sx, ↓ty, ↓reduceIte, Nat.reduceEqDiff, Nat.reduceAdd, Nat.reduceLT, ne_eq, not_false_eq_true, pc, ls, Nat.reduceAdd]
        refine CallT.mk (imul_n x.num y.num (by omega) (by omega)) ?_
        simp (maxSteps := 10000000) only [↓sx, sx, ↓ty, ↓reduceIte, Nat.reduceEqDiff, Nat.reduceAdd, ne_eq, not_false_eq_true, pc, ls, Nat.reduceAdd]
        refine CallT.mk (nmul_n x.den y.den (by omega) (by omega)) ?_
        simp (maxSteps := 10000000) only [↓sx, sx, ↓reduceIte, Nat.reduceEqDiff, pc]
        refine CallT.mk (lowestp_n (x.num * y.num) (x.den * y.den) (x * y) hd0 (by omega) (by omega) (Rat.mul_def x y).symm) ?_
        simp (maxSteps := 10000000) only [↓sx, sx, ↓ty, ↓reduceIte, Nat.reduceEqDiff, Nat.reduceAdd, ls, bs, and_self, Nat.reduceAdd, Nat.le_refl, pd]
      | true =>
        refine CallT.mk (flittle_s y hsy) ?_
        simp (maxSteps := 10000000) only [↓sx, sx, ↓ty, ↓reduceIte, Nat.reduceEqDiff, Nat.reduceAdd, Nat.reduceLT, ne_eq, not_false_eq_true, pc, ls, Nat.reduceAdd]
        refine CallT.mk (imul_n x.num y.num (by omega) (by omega)) ?_
        simp (maxSteps := 10000000) only [↓sx, sx, ↓ty, ↓reduceIte, Nat.reduceEqDiff, Nat.reduceAdd, ne_eq, not_false_eq_true, pc, ls, Nat.reduceAdd]
        refine CallT.mk (nmul_n x.den y.den (by omega) (by omega)) ?_
        simp (maxSteps := 10000000) only [↓sx, sx, ↓reduceIte, Nat.reduceEqDiff, pc]
        refine CallT.mk (lowestp_n (x.num * y.num) (x.den * y.den) (x * y) hd0 (by omega) (by omega) (Rat.mul_def x y).symm) ?_
        simp (maxSteps := 10000000) only [↓sx, sx, ↓ty, ↓reduceIte, Nat.reduceEqDiff, Nat.reduceAdd, ls, bs, and_self, Nat.reduceAdd, Nat.le_refl, pd]
    | true =>
      refine CallT.mk (flittle_s x hsx) ?_
      simp (maxSteps := 10000000) only [↓sx, sx, ↓ty, ↓reduceIte, Nat.reduceEqDiff, Nat.reduceAdd, pc, ls, Nat.reduceAdd, Nat.le_refl]
      have hsy : shortQ y = false := by cases h : shortQ y with | false => rfl | true => exact absurd ⟨hsx, h⟩ hb
      refine CallT.mk (flittle_l y hsy) ?_
      simp (maxSteps := 10000000) only [↓sx, sx, ↓ty, ↓reduceIte, Nat.reduceEqDiff, Nat.reduceAdd, Nat.reduceLT, ne_eq, not_false_eq_true, pc, ls, Nat.reduceAdd]
      refine CallT.mk (imul_n x.num y.num (by omega) (by omega)) ?_
      simp (maxSteps := 10000000) only [↓sx, sx, ↓ty, ↓reduceIte, Nat.reduceEqDiff, Nat.reduceAdd, ne_eq, not_false_eq_true, pc, ls, Nat.reduceAdd]
      refine CallT.mk (nmul_n x.den y.den (by omega) (by omega)) ?_
      simp (maxSteps := 10000000) only [↓sx, sx, ↓reduceIte, Nat.reduceEqDiff, pc]
      refine CallT.mk (lowestp_n (x.num * y.num) (x.den * y.den) (x * y) hd0 (by omega) (by omega) (Rat.mul_def x y).symm) ?_
      simp (maxSteps := 10000000) only [↓sx, sx, ↓ty, ↓reduceIte, Nat.reduceEqDiff, Nat.reduceAdd, ls, bs, and_self, Nat.reduceAdd, Nat.le_refl, pd]
end Go.Proofs.YthhefojkkgjcfaaGreatDoor.S
namespace Gb
open Go Go.Sx
theorem fr_of {l : List UInt8} (h : isRat l = true) : frP (ratOf l) = .agg [strP (splitM l).1, strP (splitM l).2.1] := by
  obtain ⟨h1, h2, _⟩ := isRat_spec h
  obtain ⟨e1, e2⟩ := ratOf_spec h
  unfold frP siP dP
  rw [e1, e2, iD_intOf h1, dec_natOf h2]
theorem Sz.of {l : List UInt8} {k : Nat} (h : isRat l = true) (hk : l.length ≤ 9 * k) : Sz (k + 1) (ratOf l) := (Sz.text h).mono (by omega)
def fr0 : PV := .agg [.val (.string ⟨#[]⟩), .val (.string ⟨#[]⟩)]
end Gb
namespace Go.Proofs.YthhefojkkgjcfaaGreatDoor.S
open Go Go.Sx Go.RowKit Gb Go.Shelf
set_option maxRecDepth 100000 in
theorem both_ok (a b : List UInt8) (ha : a.length < 90000) (hb : b.length < 90000) (h1 : isRat a = true) (h2 : isRat b = true) : Meets Tryz.prog Gd 63 [strP a, strP b] (.tup [frP (ratOf a), frP (ratOf b), iP 0]) := by
  refine meets_of_vc (Y := { ex := [5] }) (N := 31) (rs := [.cell 4 96, .cell 5 96, .tmp 6]) mix tk gd Tryz.func63 rfl (by kernel_rfl) rfl rfl (by simp) (by kernel_rfl) ?_
  simp (maxSteps := 10000000) only [↓sx, sx, ↓ty, ↓reduceIte, Nat.reduceEqDiff, pc]
  refine CallT.mk (fread_n a (by omega)) ?_
  rw [h1, ← fr_of h1]
  simp (maxSteps := 10000000) only [↓sx, sx, ↓ty, ↓reduceIte, Nat.reduceEqDiff, Nat.reduceAdd, pc, ls, bs, and_self, Nat.reduceAdd, Nat.le_refl, pd]
  refine CallT.mk (fread_n b (by omega)) ?_
  rw [h2, ← fr_of h2]
  simp (maxSteps := 10000000) only [↓sx, sx, ↓ty, ↓reduceIte, Nat.reduceEqDiff, Nat.reduceAdd, Nat.reduceLT, pc, ls, bs, and_self, Nat.reduceAdd, Nat.le_refl, pd]
  first | exact ⟨by kernel_rfl, rfl⟩ | kernel_rfl
set_option maxRecDepth 100000 in
theorem both_no (a b : List UInt8) (ha : a.length < 90000) (hb : b.length < 90000) (h : (isRat a && isRat b) = false) : Meets Tryz.prog Gd 63 [strP a, strP b] (.tup [fr0, fr0, iP 1]) := by
  refine meets_of_vc (Y := { ex := [5] }) (N := 31) (rs := [.cell 4 96, .cell 5 96, .tmp 6]) mix tk gd Tryz.func63 rfl (by kernel_rfl) rfl rfl (by simp) (by kernel_rfl) ?_
  simp (maxSteps := 10000000) only [↓sx, sx, ↓ty, ↓reduceIte, Nat.reduceEqDiff, pc]
  refine CallT.mk (fread_n a (by omega)) ?_
  simp (maxSteps := 10000000) only [↓sx, sx, ↓ty, ↓reduceIte, Nat.reduceEqDiff, Nat.reduceAdd, pc, ls, bs, and_self, Nat.reduceAdd, Nat.le_refl]
  refine CallT.mk (fread_n b (by omega)) ?_
  cases h1 : isRat a with
  | false =>
    simp (maxSteps := 10000000) only [↓sx, sx, ↓ty, ↓reduceIte, Nat.reduceEqDiff, Nat.reduceAdd, Nat.reduceLT, pc, ls, bs, and_self, Nat.reduceAdd, Nat.le_refl]
    rfl
  | true =>
    rw [h1, Bool.true_and] at h
    rw [h]
    simp (maxSteps := 10000000) only [↓sx, sx, ↓ty, ↓reduceIte, Nat.reduceEqDiff, Nat.reduceAdd, Nat.reduceLT, pc, ls, bs, and_self, Nat.reduceAdd, Nat.le_refl]
    rfl
set_option maxRecDepth 100000 in
set_option maxHeartbeats 4000000 in
theorem apply_ok (op : Int) (g : FuncId) (a b : List UInt8) (r : Rat) (ha : a.length < 90000) (hb : b.length < 90000) (h1 : isRat a = true) (h2 : isRat b = true) (hg : mpGet opsL op = some g) (hm : Meets Tryz.prog Gd g [frP (ratOf a), frP (ratOf b)] (frP r)) (hz : op ≠ 47 ∨ ratOf b ≠ 0) (hr : Sz 50000 r) :
    Meets Tryz.prog Gd 62 [.val (.int .u8 op), strP a, strP b] (.tup [rtP r, iP 0]) := by
  refine meets_of_vc (Y := {}) (N := 37) (rs := [.tmp 6, .tmp 7]) mix tk gd Tryz.func62 rfl (by kernel_rfl) rfl rfl (by simp) (by kernel_rfl) ?_
  simp (maxSteps := 10000000) only [↓sx, sx, ↓reduceIte, Nat.reduceEqDiff, pc]
  refine CallT.mk (both_ok a b ha hb h1 h2) ?_
  by_cases h47 : op = 47
  · subst h47
    have hb0 : ((ratOf b).num = 0) = False := by simp; simpa using hz
    simp (maxSteps := 10000000) only [↓sx, sx, ↓ty, ↓reduceIte, Nat.reduceEqDiff, Nat.reduceAdd, Nat.reduceLT, Int.reduceBNe, Int.reduceBEq, ne_eq, not_false_eq_true, pc, ls, bs, and_self, Nat.reduceAdd, Nat.le_refl, pd, iD_eq0, hb0, decide_false]
    refine CallT.mk (t := ⟨⟩) all_n ?_
    simp (maxSteps := 10000000) only [↓sx, sx, ↓ty, ↓reduceIte, Nat.reduceEqDiff, Nat.reduceAdd, ls, Nat.reduceAdd, Nat.le_refl, hg]
    refine CallT.mk hm ?_
    simp (maxSteps := 10000000) only [↓sx, sx, ↓reduceIte, pd]
    refine CallT.mk (ftext_n r hr) ?_
    simp (maxSteps := 10000000) only [↓sx, sx, ↓reduceIte, Nat.reduceEqDiff, pc]
  · have e1 : (op == 47) = false := by simpa using h47
    simp (maxSteps := 10000000) only [↓sx, sx, ↓ty, ↓reduceIte, Nat.reduceEqDiff, Nat.reduceAdd, Nat.reduceLT, Int.reduceBNe, pc, ls, bs, and_self, Nat.reduceAdd, Nat.le_refl, pd, e1]
    refine CallT.mk (t := ⟨⟩) all_n ?_
    simp (maxSteps := 10000000) only [↓sx, sx, ↓ty, ↓reduceIte, Nat.reduceEqDiff, Nat.reduceAdd, ls, Nat.reduceAdd, Nat.le_refl, hg]
    refine CallT.mk hm ?_
    simp (maxSteps := 10000000) only [↓sx, sx, ↓reduceIte, pd]
    refine CallT.mk (ftext_n r hr) ?_
    simp (maxSteps := 10000000) only [↓sx, sx, ↓reduceIte, Nat.reduceEqDiff, pc]
set_option maxRecDepth 100000 in
set_option maxHeartbeats 4000000 in
theorem apply_no (op : Int) (a b : List UInt8) (ha : a.length < 90000) (hb : b.length < 90000) (h : (isRat a && isRat b) = false) :
    Meets Tryz.prog Gd 62 [.val (.int .u8 op), strP a, strP b] (.tup [strP [], iP 1]) := by
  refine meets_of_vc (Y := {}) (N := 37) (rs := [.tmp 6, .tmp 7]) mix tk gd Tryz.func62 rfl (by kernel_rfl) rfl rfl (by simp) (by kernel_rfl) ?_
  simp (maxSteps := 10000000) only [↓sx, sx, ↓reduceIte, Nat.reduceEqDiff, pc]
  refine CallT.mk (both_no a b ha hb h) ?_
  simp (maxSteps := 10000000) only [↓sx, sx, ↓ty, ↓reduceIte, Nat.reduceEqDiff, Nat.reduceAdd, Int.reduceBNe, pc, ls, bs, and_self, Nat.reduceAdd, Nat.le_refl, fr0]
end Go.Proofs.YthhefojkkgjcfaaGreatDoor.S
namespace Gb
open Go Go.Sx
def ropP (f : Rat → Rat → Rat) (a b : List UInt8) : PV := if isRat a && isRat b then .tup [rtP (f (ratOf a) (ratOf b)), iP 0] else .tup [strP [], iP 1]
def rcmpP (a b : List UInt8) : PV := if isRat a && isRat b then .tup [iP (ratOf a - ratOf b).num.sign, iP 0] else .tup [iP 0, iP 1]
def rfloorP (a : List UInt8) : PV := if isRat a then .tup [siP (ratOf a).floor, iP 0] else .tup [strP [], iP 1]
def rmakeP (a b : List UInt8) : PV := if isInt a && isInt b then (if intOf b = 0 then .tup [strP [], iP 16] else .tup [rtP (Rat.divInt (intOf a) (intOf b)), iP 0]) else .tup [strP [], iP 1]
theorem and_split {a b : Bool} (h : (a && b) = true) : a = true ∧ b = true := by simpa using h
theorem sz_ok {l : List UInt8} (h : isRat l = true) (hl : l.length < 90000) : Sz 10001 (ratOf l) := Sz.of h (by omega)
end Gb
namespace Go.Proofs.YthhefojkkgjcfaaGreatDoor.S
open Go Go.Sx Go.RowKit Gb Go.Shelf
set_option maxRecDepth 100000 in
theorem radd_n (a b : List UInt8) (ha : a.length < 90000) (hb : b.length < 90000) : Meets Tryz.prog Gd 67 [strP a, strP b] (ropP (· + ·) a b) := by
  refine meets_of_vc (Y := {}) (N := 11) (rs := [.tmp 4, .tmp 5]) mix tk gd Tryz.func67 rfl (by kernel_rfl) rfl rfl (by simp) (by kernel_rfl) ?_
  unfold ropP
  cases h : (isRat a && isRat b) with
  | true =>
    obtain ⟨h1, h2⟩ := and_split h
    have s1 := sz_ok h1 ha
    have s2 := sz_ok h2 hb
    simp (maxSteps := 10000000) only [↓sx, sx, ↓reduceIte, Nat.reduceEqDiff, pc]
    refine CallT.mk (apply_ok 43 _ a b (ratOf a + ratOf b) ha hb h1 h2 rfl (fplus_n _ _ (s1.mono (by omega)) (s2.mono (by omega))) (.inl (by decide)) ((s1.add s2).mono (by omega))) ?_
    simp (maxSteps := 10000000) only [↓sx, sx, ↓reduceIte, Nat.reduceEqDiff, pc]
  | false =>
    simp (maxSteps := 10000000) only [↓sx, sx, ↓reduceIte, Nat.reduceEqDiff, pc]
    refine CallT.mk (apply_no 43 a b ha hb h) ?_
    simp (maxSteps := 10000000) only [↓sx, sx, ↓reduceIte, Nat.reduceEqDiff, pc]
set_option maxRecDepth 100000 in
theorem rmul_n (a b : List UInt8) (ha : a.length < 90000) (hb : b.length < 90000) : Meets Tryz.prog Gd 23 [strP a, strP b] (ropP (· * ·) a b) := by
  refine meets_of_vc (Y := {}) (N := 11) (rs := [.tmp 4, .tmp 5]) mix tk gd Tryz.func23 rfl (by kernel_rfl) rfl rfl (by simp) (by kernel_rfl) ?_
  unfold ropP
  cases h : (isRat a && isRat b) with
  | true =>
    obtain ⟨h1, h2⟩ := and_split h
    have s1 := sz_ok h1 ha
    have s2 := sz_ok h2 hb
    simp (maxSteps := 10000000) only [↓sx, sx, ↓reduceIte, Nat.reduceEqDiff, pc]
    refine CallT.mk (apply_ok 42 _ a b (ratOf a * ratOf b) ha hb h1 h2 rfl (ftimes_n _ _ (s1.mono (by omega)) (s2.mono (by omega))) (.inl (by decide)) ((s1.mul s2).mono (by omega))) ?_
    simp (maxSteps := 10000000) only [↓sx, sx, ↓reduceIte, Nat.reduceEqDiff, pc]
  | false =>
    simp (maxSteps := 10000000) only [↓sx, sx, ↓reduceIte, Nat.reduceEqDiff, pc]
    refine CallT.mk (apply_no 42 a b ha hb h) ?_
    simp (maxSteps := 10000000) only [↓sx, sx, ↓reduceIte, Nat.reduceEqDiff, pc]
set_option maxRecDepth 100000 in
theorem rvalid_n (l : List UInt8) (hl : l.length < 300000) : Meets Tryz.prog Gd 22 [strP l] (.val (.bool (isRat l))) := by
  refine meets_of_vc (Y := {}) (N := 11) (rs := [.tmp 2]) mix tk gd Tryz.func22 rfl (by kernel_rfl) rfl rfl (by simp) (by kernel_rfl) ?_
  simp (maxSteps := 10000000) only [↓sx, sx, ↓reduceIte, Nat.reduceEqDiff, pc]
  refine CallT.mk (fread_n l hl) ?_
  simp (maxSteps := 10000000) only [↓sx, sx, ↓ty, ↓reduceIte, Nat.reduceEqDiff, Nat.reduceAdd, pc, ls, bs, and_self, Nat.reduceAdd, Nat.le_refl]
set_option maxRecDepth 100000 in
theorem rfloor_n (l : List UInt8) (hl : l.length < 90000) : Meets Tryz.prog Gd 113 [strP l] (rfloorP l) := by
  refine meets_of_vc (Y := {}) (N := 15) (rs := [.tmp 2, .tmp 3]) mix tk gd Tryz.func113 rfl (by kernel_rfl) rfl rfl (by simp) (by kernel_rfl) ?_
  unfold rfloorP
  simp (maxSteps := 10000000) only [↓sx, sx, ↓reduceIte, Nat.reduceEqDiff, pc]
  refine CallT.mk (fread_n l (by omega)) ?_
  cases h : isRat l with
  | true =>
    rw [← fr_of h]
    simp (maxSteps := 10000000) only [↓sx, sx, ↓ty, ↓reduceIte, Nat.reduceEqDiff, Nat.reduceAdd, ls, bs, and_self, Nat.reduceAdd, Nat.le_refl, pd]
    refine CallT.mk (ffloor_n (ratOf l) ((sz_ok h hl).mono (by omega))) ?_
    simp (maxSteps := 10000000) only [↓sx, sx, ↓reduceIte, Nat.reduceEqDiff, pc]
  | false =>
    simp (maxSteps := 10000000) only [↓sx, sx, ↓ty, ↓reduceIte, Nat.reduceEqDiff, Nat.reduceAdd, pc, ls, bs, and_self, Nat.reduceAdd, Nat.le_refl]
end Go.Proofs.YthhefojkkgjcfaaGreatDoor.S
namespace Gb
open Go Go.Sx
theorem sub_self_sign (x : Rat) : (x - x).num.sign = 0 := by rw [Rat.sub_self]; rfl
theorem cut_sign {s t : Int} (hs : s = -1 ∨ s = 0 ∨ s = 1) (ht : t = -1 ∨ t = 0 ∨ t = 1) (h : s ≠ t) :
    (if (if 1 < s - t then (1 : Int) else s - t) > -1 then (if 1 < s - t then (1 : Int) else s - t) else -1) = if s < t then -1 else 1 := by
  rcases hs with rfl | rfl | rfl <;> rcases ht with rfl | rfl | rfl <;> first | (exact absurd rfl h) | decide
theorem sign_3 (z : Int) : z.sign = -1 ∨ z.sign = 0 ∨ z.sign = 1 := by
  rcases Int.lt_trichotomy z 0 with h | h | h
  · exact .inl (Int.sign_eq_neg_one_of_neg h)
  · exact .inr (.inl (by rw [h]; rfl))
  · exact .inr (.inr (Int.sign_eq_one_of_pos h))
theorem sign_key (x y : Rat) : x.num.sign ≠ y.num.sign → (x - y).num.sign = if x.num.sign < y.num.sign then -1 else 1 := by
  have hsx : ∀ z : Int, ∀ d : Nat, d ≠ 0 → (z * d).sign = z.sign := by
    intro z d hd
    rw [Int.sign_mul, Int.sign_eq_one_of_pos (show (0 : Int) < d by omega), Int.mul_one]
  have hcx := hsx x.num y.den y.den_nz
  have hcy := hsx y.num x.den x.den_nz
  rw [sub_sign_num, ← hcx, ← hcy]
  generalize x.num * (y.den : Int) = a
  generalize y.num * (x.den : Int) = b
  intro h
  rcases Int.lt_trichotomy a 0 with h1 | h1 | h1 <;> rcases Int.lt_trichotomy b 0 with h2 | h2 | h2 <;>
    simp [h1, h2, Int.sign_eq_neg_one_of_neg, Int.sign_eq_one_of_pos] at h ⊢ <;> omega
theorem cutM_iD (z : Int) : cutM (iD z) = (Lib.decDigits z.natAbs, decide (z < 0)) := by
  unfold iD
  by_cases h : z < 0
  · rw [if_pos h, cutM_cons, if_pos rfl]; simp [h]
  · rw [if_neg h]
    cases hl : Lib.decDigits z.natAbs with
    | nil => simp [h]; rfl
    | cons c r =>
      have := isNat_head (c := c) (r := r) (by rw [← hl]; exact isNat_dec _)
      rw [cutM_cons, if_neg this]; simp [h]
theorem norm_divInt (x : Int) {y : Int} (h : 0 < y) : Rat.normalize x y.natAbs (by omega) = Rat.divInt x y := by
  obtain ⟨q, rfl⟩ : ∃ q : Nat, y = q := ⟨y.natAbs, by omega⟩
  rw [Rat.normalize_eq_mkRat]
  simp
theorem norm_divInt_neg (x : Int) {y : Int} (h : y < 0) : Rat.normalize (-x) y.natAbs (by omega) = Rat.divInt x y := by
  cases y with
  | ofNat n => exact absurd h (by simp)
  | negSucc q => rfl
end Gb
namespace Go.Proofs.YthhefojkkgjcfaaGreatDoor.S
open Go Go.Sx Go.RowKit Gb Go.Shelf
set_option maxRecDepth 100000 in
set_option maxHeartbeats 4000000 in
theorem rcmp_n (a b : List UInt8) (ha : a.length < 90000) (hb : b.length < 90000) : Meets Tryz.prog Gd 24 [strP a, strP b] (rcmpP a b) := by
  refine meets_of_vc (Y := {}) (N := 63) (rs := [.tmp 4, .tmp 5]) mix tk gd Tryz.func24 rfl (by kernel_rfl) rfl rfl (by simp) (by kernel_rfl) ?_
  unfold rcmpP
  cases h : (isRat a && isRat b) with
  | false =>
    simp (maxSteps := 10000000) only [↓sx, sx, ↓reduceIte, Nat.reduceEqDiff, pc]
    refine CallT.mk (both_no a b ha hb h) ?_
    simp (maxSteps := 10000000) only [↓sx, sx, ↓ty, ↓reduceIte, Nat.reduceEqDiff, Nat.reduceAdd, Nat.reduceLT, Int.reduceBNe, pc, ls, bs, and_self, Nat.reduceAdd, Nat.le_refl, fr0]
  | true =>
    obtain ⟨h1, h2⟩ := and_split h
    have s1 := sz_ok h1 ha
    have s2 := sz_ok h2 hb
    have z1 := s1.1
    have z2 := s1.2
    have z3 := s2.1
    have z4 := s2.2
    simp (maxSteps := 10000000) only [↓sx, sx, ↓reduceIte, Nat.reduceEqDiff, pc]
    refine CallT.mk (both_ok a b ha hb h1 h2) ?_
    by_cases hab : a = b
    · subst hab
      have e1 : (a == a) = true := by simp
      simp (maxSteps := 10000000) only [↓sx, sx, ↓ty, ↓reduceIte, Nat.reduceEqDiff, Nat.reduceAdd, Nat.reduceLT, Int.reduceBNe, pc, ls, bs, and_self, Nat.reduceAdd, Nat.le_refl, pd, e1]
      rw [sub_self_sign]
    · have e1 : (a == b) = false := by simpa using hab
      simp (maxSteps := 10000000) only [↓sx, sx, ↓ty, ↓reduceIte, Nat.reduceEqDiff, Nat.reduceAdd, Nat.reduceLT, Int.reduceBNe, pc, ls, bs, and_self, Nat.reduceAdd, Nat.le_refl, pd, e1]
      refine CallT.mk (t := ⟨⟩) (fsign_n (ratOf a) (s1.mono (by omega))) ?_
      simp (maxSteps := 10000000) only [↓sx, sx, ↓ty, ↓reduceIte, Nat.reduceEqDiff, Nat.reduceAdd, ls, Nat.reduceAdd, Nat.le_refl]
      refine CallT.mk (t := ⟨⟩) (fsign_n (ratOf b) (s2.mono (by omega))) ?_
      by_cases hs : (ratOf a).num.sign = (ratOf b).num.sign
      · have e2 : ((ratOf a).num.sign != (ratOf b).num.sign) = false := by simpa using hs
        simp (maxSteps := 10000000) only [↓sx, sx, ↓ty, ↓reduceIte, Nat.reduceEqDiff, Nat.reduceAdd, ne_eq, not_false_eq_true, pc, ls, Nat.reduceAdd, e2]
        refine CallT.to (imul_n (ratOf a).num ((ratOf b).den : Int) (by omega) (by rw [Int.natAbs_natCast]; omega)) (by rw [siP_nat]; rfl) ?_
        simp (maxSteps := 10000000) only [↓sx, sx, ↓ty, ↓reduceIte, Nat.reduceEqDiff, Nat.reduceAdd, ne_eq, not_false_eq_true, pc, ls, Nat.reduceAdd]
        refine CallT.to (imul_n (ratOf b).num ((ratOf a).den : Int) (by omega) (by rw [Int.natAbs_natCast]; omega)) (by rw [siP_nat]; rfl) ?_
        simp (maxSteps := 10000000) only [↓sx, sx, ↓reduceIte, Nat.reduceEqDiff, pc]
        have l1 := Lw_imul (ratOf a).num (ratOf b).den
        have l2 := Lw_imul (ratOf b).num (ratOf a).den
        rw [Int.natAbs_natCast] at l1 l2
        refine CallT.mk (icompare_n ((ratOf a).num * (ratOf b).den) ((ratOf b).num * (ratOf a).den) (by omega) (by omega)) ?_
        simp (maxSteps := 10000000) only [↓sx, sx, ↓reduceIte, Nat.reduceEqDiff, pc]
        rw [sub_sign_num]
      · have e2 : ((ratOf a).num.sign != (ratOf b).num.sign) = true := by simpa using hs
        have k := sign_key (ratOf a) (ratOf b) hs
        have c := cut_sign (sign_3 _) (sign_3 _) hs
        have b1 := sign_3 (ratOf a).num
        have b2 := sign_3 (ratOf b).num
        simp (maxSteps := 10000000) only [↓sx, sx, ↓reduceIte, Nat.reduceEqDiff, pc, e2]
        rw [k, ← c, i64_id (x := (ratOf a).num.sign - (ratOf b).num.sign) (by omega) (by omega)]
set_option maxRecDepth 100000 in
set_option maxHeartbeats 4000000 in
theorem rmake_n (a b : List UInt8) (ha : a.length < 90000) (hb : b.length < 90000) : Meets Tryz.prog Gd 42 [strP a, strP b] (rmakeP a b) := by
  refine meets_of_vc (Y := {}) (N := 36) (rs := [.tmp 4, .tmp 5]) mix tk gd Tryz.func42 rfl (by kernel_rfl) rfl rfl (by simp) (by kernel_rfl) ?_
  unfold rmakeP
  simp (maxSteps := 10000000) only [↓sx, sx, ↓reduceIte, Nat.reduceEqDiff, pc]
  refine CallT.mk (ivalid_n a (by omega)) ?_
  cases h1 : isInt a with
  | false =>
    simp (maxSteps := 10000000) only [↓sx, sx, ↓reduceIte, Nat.reduceEqDiff, Nat.reduceLT, pc, and_self]
  | true =>
    simp (maxSteps := 10000000) only [↓sx, sx, ↓reduceIte, Nat.reduceEqDiff, Nat.reduceLT, pc]
    refine CallT.mk (ivalid_n b (by omega)) ?_
    cases h2 : isInt b with
    | false =>
      simp (maxSteps := 10000000) only [↓sx, sx, ↓reduceIte, Nat.reduceEqDiff, Nat.reduceLT, pc, and_self]
    | true =>
      obtain ⟨x, rfl⟩ : ∃ x, a = iD x := ⟨_, (iD_intOf h1).symm⟩
      obtain ⟨y, rfl⟩ : ∃ y, b = iD y := ⟨_, (iD_intOf h2).symm⟩
      rw [intOf_iD, intOf_iD]
      have lx := Lw_intOf h1
      have ly := Lw_intOf h2
      rw [intOf_iD] at lx ly
      by_cases hy : y = 0
      · have e1 : (iD y == [48]) = true := by rw [iD_eq0]; simp [hy]
        simp (maxSteps := 10000000) only [↓sx, sx, ↓reduceIte, Nat.reduceEqDiff, Nat.reduceLT, pc, e1]
        rw [if_pos hy]
      · have e1 : (iD y == [48]) = false := by rw [iD_eq0]; simp [hy]
        simp (maxSteps := 10000000) only [↓sx, sx, ↓reduceIte, Nat.reduceEqDiff, Nat.reduceLT, pc, e1]
        rw [if_neg hy]
        refine CallT.mk (t := ⟨⟩) (cutm_n (iD y)) ?_
        rw [cutM_iD]
        have e2 : (iD y).length < 90000 := hb
        by_cases hy0 : y < 0
        · simp only [hy0, decide_true]
          simp (maxSteps := 10000000) only [↓sx, sx, ↓reduceIte, Nat.reduceEqDiff, pc]
          refine CallT.mk (ineg_n x (by omega)) ?_
          simp (maxSteps := 10000000) only [↓sx, sx, ↓reduceIte, Nat.reduceEqDiff, pc]
          have q := norm_divInt_neg x hy0
          refine CallT.mk (lowestp_n (-x) y.natAbs _ (by omega) (by rw [Int.natAbs_neg]; omega) (by omega) q) ?_
          simp (maxSteps := 10000000) only [↓sx, sx, ↓reduceIte, pd]
          have sz : Sz 20000 (Rat.divInt x y) := by rw [← q]; exact Sz.norm _ (by rw [Int.natAbs_neg]; omega) (by omega)
          refine CallT.mk (ftext_n _ (sz.mono (by omega))) ?_
          simp (maxSteps := 10000000) only [↓sx, sx, ↓reduceIte, Nat.reduceEqDiff, pc]
        · simp only [hy0, decide_false]
          simp (maxSteps := 10000000) only [↓sx, sx, ↓reduceIte, Nat.reduceEqDiff, pc]
          have q := norm_divInt x (y := y) (by omega)
          have e3 : iD y = Lib.decDigits y.natAbs := by unfold iD; rw [if_neg hy0]
          refine CallT.to (lowestp_n x y.natAbs _ (by omega) (by omega) (by omega) q) (by rw [e3]; rfl) ?_
          simp (maxSteps := 10000000) only [↓sx, sx, ↓reduceIte, pd]
          have sz : Sz 20000 (Rat.divInt x y) := by rw [← q]; exact Sz.norm _ (by omega) (by omega)
          refine CallT.mk (ftext_n _ (sz.mono (by omega))) ?_
          simp (maxSteps := 10000000) only [↓sx, sx, ↓reduceIte, Nat.reduceEqDiff, pc]
end Go.Proofs.YthhefojkkgjcfaaGreatDoor.S
namespace Go.Proofs.YthhefojkkgjcfaaGreatDoor.S
open Go Go.Sx Go.RowKit Gb Go.Shelf
theorem rcmp_q (x y : Rat) (hx : Sz 4000 x) (hy : Sz 4000 y) : Meets Tryz.prog Gd 24 [rtP x, rtP y] (.tup [iP (x - y).num.sign, iP 0]) := by
  have := rcmp_n (rT x) (rT y) (by have := rT_len hx; omega) (by have := rT_len hy; omega)
  unfold rcmpP at this
  rw [isRat_rT, isRat_rT, ratOf_rT, ratOf_rT] at this
  exact this
set_option maxRecDepth 100000 in
theorem less_q (x y : Rat) (hx : Sz 4000 x) (hy : Sz 4000 y) : Meets Tryz.prog Gd 72 [rtP x, rtP y] (.val (.bool (decide (x < y)))) := by
  refine meets_of_vc (Y := {}) (N := 15) (rs := [.tmp 4]) mix tk gd Tryz.func72 rfl (by kernel_rfl) rfl rfl (by simp) (by kernel_rfl) ?_
  simp (maxSteps := 10000000) only [↓sx, sx, ↓reduceIte, Nat.reduceEqDiff, pc]
  refine CallT.mk (rcmp_q x y hx hy) ?_
  simp (maxSteps := 10000000) only [↓sx, sx, ↓reduceIte, Nat.reduceEqDiff, pc, lt_sign]
set_option maxRecDepth 100000 in
theorem ivalid2_n (a b : List UInt8) (ha : a.length < 90000) (hb : b.length < 90000) : Meets Tryz.prog Gd 31 [ivP a b] (.val (.bool (isIv a b))) := by
  refine meets_of_vc (Y := {}) (N := 19) (rs := [.tmp 2]) mix tk gd Tryz.func31 rfl (by kernel_rfl) rfl rfl (by simp) (by kernel_rfl) ?_
  simp (maxSteps := 10000000) only [↓sx, sx, ↓ty, ↓reduceIte, Nat.reduceEqDiff, Nat.reduceAdd, ne_eq, not_false_eq_true, ls, Nat.reduceAdd, pi]
  refine CallT.mk (rcmp_n a b ha hb) ?_
  unfold rcmpP isIv
  cases h : (isRat a && isRat b) with
  | false =>
    simp only [Bool.false_eq_true, if_false]
    simp (maxSteps := 10000000) only [↓sx, sx, ↓reduceIte, Nat.reduceEqDiff, Nat.reduceLT, Int.reduceBEq, pc, and_self]
  | true =>
    simp only [if_true]
    simp (maxSteps := 10000000) only [↓sx, sx, ↓reduceIte, Nat.reduceEqDiff, Nat.reduceLT, Int.reduceBEq, pc, and_self, le_sign]
set_option maxRecDepth 100000 in
set_option maxHeartbeats 4000000 in
theorem ends_n (x0 : Rat) (xs : List Rat) (h0 : Sz 4000 x0) (hs : ∀ x ∈ xs, Sz 4000 x) (hl : xs.length < 1000000) : Meets Tryz.prog Gd 73 [.sl (xs.length + 1) (rtP x0 :: xs.map rtP)] (ivQ (endsQ (x0, x0) xs)) := by
  refine meets_of_vc (Y := {}) (N := 34) (rs := [.cell 2 24]) mix tk gd Tryz.func73 rfl (by kernel_rfl) rfl rfl (by simp) (by kernel_rfl) ?_
  simp (maxSteps := 10000000) only [↓sx, sx, ↓ty, ↓reduceIte, Nat.reduceEqDiff, Nat.reduceAdd, Nat.reduceLeDiff, pc, ls, bs, and_self, Nat.reduceAdd, Nat.le_refl]
  refine ⟨by omega, by omega, by omega, ?_⟩
  refine loopK_of (fun i : Nat => [(2, .box 2 0), (3, .box 3 0), (14, .p (.sl xs.length (xs.map rtP))), (15, .p (.val (.int .i64 (xs.length : Nat)))), (16, .p (.val (.int .i64 (i : Nat))))]) (fun i => [(2, (24, [.val (.string ⟨#[]⟩), .val (.string ⟨#[]⟩)])), (3, (24, [rtP (endsQ (x0, x0) (xs.take i)).1, rtP (endsQ (x0, x0) (xs.take i)).2]))]) (fun _ => []) (fun i => i ≤ xs.length) (fun i => xs.length - i) 0 (Nat.zero_le _) ?_ ?_
  · simp (maxSteps := 10000000) only [isE_nil, is_cons, bo_p, bo_box, any_cons', all_cons', all_nil', Bool.true_or, Bool.or_true, ↓sx, sx, ↓reduceIte, Nat.reduceEqDiff, Nat.reduceBeqDiff]
    simp [endsQ, rtP_c]
    rw [List.take_of_length_le (by simp)]
  · intro i hi
    simp (maxSteps := 10000000) only [↓sx, sx, ↓ty, ↓reduceIte, Nat.reduceEqDiff, Nat.reduceAdd, ne_eq, not_false_eq_true, pc, ls, bs, and_self, Nat.reduceAdd, Nat.le_refl, List.getElem?_map, loadQ]
    refine vcIf_dec (fun h => ?_) (fun h => ?_)
    · have hil : i < xs.length := by omega
      have ht := endsQ_snoc (x0, x0) (xs.take i) (xs.getD i 0)
      rw [← take_snoc hil] at ht
      have hz := endsQ_sz (k := 4000) (xs.take i) (x0, x0) h0 h0 fun x hx => hs x (List.mem_of_mem_take hx)
      have hx : Sz 4000 (xs.getD i 0) := hs _ (by rw [List.getD_eq_getElem?_getD, List.getElem?_eq_getElem hil]; exact List.getElem_mem hil)
      generalize endsQ (x0, x0) (xs.take i) = E at *
      obtain ⟨lo, hi⟩ := E
      generalize xs.getD i 0 = a at *
      dsimp only at *
      refine ⟨⟨by omega, by omega, by rw [List.length_map]; omega⟩, hil, ?_⟩
      refine CallT.mk (less_q a lo hx hz.1) ?_
      by_cases c1 : a < lo
      · simp only [c1, decide_true, if_true] at ht ⊢
        simp (maxSteps := 10000000) only [↓sx, sx, ↓ty, ↓reduceIte, Nat.reduceEqDiff, Nat.reduceAdd, Nat.reduceLeDiff, ne_eq, not_false_eq_true, ls, bs, and_self, Nat.reduceAdd]
        refine CallT.mk (less_q hi a hz.2 hx) ?_
        by_cases c2 : hi < a
        · simp only [c2, decide_true, if_true] at ht ⊢
          simp (maxSteps := 10000000) only [↓sx, sx, ↓ty, ↓reduceIte, Nat.reduceEqDiff, Nat.reduceAdd, ne_eq, not_false_eq_true, pc, ls, bs, and_self, Nat.reduceAdd, Nat.le_refl]
          refine NextK.mk (i + 1) (by omega) (by omega) ?_
          simp (maxSteps := 10000000) only [isE_nil, is_cons, bo_p, bo_box, any_cons', all_cons', all_nil', Bool.true_or, Bool.or_true, ↓sx, sx, ↓reduceIte, Nat.reduceEqDiff, Nat.reduceBeqDiff]
          rw [i64_id (by omega) (by omega), ht]
          exact ⟨rfl, rfl⟩
        · simp only [c2, decide_false, if_false] at ht ⊢
          simp (maxSteps := 10000000) only [↓sx, sx, ↓reduceIte, Nat.reduceEqDiff, pc]
          refine NextK.mk (i + 1) (by omega) (by omega) ?_
          simp (maxSteps := 10000000) only [isE_nil, is_cons, bo_p, bo_box, any_cons', all_cons', all_nil', Bool.true_or, Bool.or_true, ↓sx, sx, ↓reduceIte, Nat.reduceEqDiff, Nat.reduceBeqDiff]
          rw [i64_id (by omega) (by omega), ht]
          exact ⟨rfl, rfl⟩
      · simp only [c1, decide_false, if_false] at ht ⊢
        simp (maxSteps := 10000000) only [↓sx, sx, ↓ty, ↓reduceIte, Nat.reduceEqDiff, Nat.reduceAdd, ne_eq, not_false_eq_true, ls, Nat.reduceAdd]
        refine CallT.mk (less_q hi a hz.2 hx) ?_
        by_cases c2 : hi < a
        · simp only [c2, decide_true, if_true] at ht ⊢
          simp (maxSteps := 10000000) only [↓sx, sx, ↓ty, ↓reduceIte, Nat.reduceEqDiff, Nat.reduceAdd, ne_eq, not_false_eq_true, pc, ls, bs, and_self, Nat.reduceAdd, Nat.le_refl]
          refine NextK.mk (i + 1) (by omega) (by omega) ?_
          simp (maxSteps := 10000000) only [isE_nil, is_cons, bo_p, bo_box, any_cons', all_cons', all_nil', Bool.true_or, Bool.or_true, ↓sx, sx, ↓reduceIte, Nat.reduceEqDiff, Nat.reduceBeqDiff]
          rw [i64_id (by omega) (by omega), ht]
          exact ⟨rfl, rfl⟩
        · simp only [c2, decide_false, if_false] at ht ⊢
          simp (maxSteps := 10000000) only [↓sx, sx, ↓reduceIte, Nat.reduceEqDiff, pc]
          refine NextK.mk (i + 1) (by omega) (by omega) ?_
          simp (maxSteps := 10000000) only [isE_nil, is_cons, bo_p, bo_box, any_cons', all_cons', all_nil', Bool.true_or, Bool.or_true, ↓sx, sx, ↓reduceIte, Nat.reduceEqDiff, Nat.reduceBeqDiff]
          rw [i64_id (by omega) (by omega), ht]
          exact ⟨rfl, rfl⟩
    · obtain rfl : i = xs.length := by omega
      rw [List.take_length]
      rfl
end Go.Proofs.YthhefojkkgjcfaaGreatDoor.S
namespace Gb
open Go Go.RowKit Go.Sx
theorem rT_0 : rT 0 = [48] := by
  unfold rT
  rw [if_pos (show (0 : Rat).den = 1 from rfl)]
  show iD 0 = _
  unfold iD
  rw [if_neg (by decide)]
  exact dec_0
theorem rtP_0 : rtP 0 = .val (.string ⟨#[48]⟩) := by unfold rtP; rw [rT_0]; rfl
def e0 : PV := .val (.string ⟨#[]⟩)
def isignP (a b : List UInt8) : PV := if isIv a b then (if 0 < ratOf a then .tup [iP 1, .val (.bool true), iP 0] else if ratOf b < 0 then .tup [iP (-1), .val (.bool true), iP 0] else .tup [iP 0, .val (.bool (a == b)), iP 0]) else .tup [iP 0, .val (.bool false), iP 1]
theorem isIv_spec {a b : List UInt8} (h : isIv a b = true) : isRat a = true ∧ isRat b = true ∧ ratOf a ≤ ratOf b := by
  unfold isIv at h
  simp only [Bool.and_eq_true, decide_eq_true_eq] at h
  exact ⟨h.1.1, h.1.2, h.2⟩
theorem isIv_rT {x y : Rat} (h : x ≤ y) : isIv (rT x) (rT y) = true := by
  unfold isIv; rw [isRat_rT, isRat_rT, ratOf_rT, ratOf_rT]; simp [h]
theorem ivQ_iv (p : Rat × Rat) : ivQ p = ivP (rT p.1) (rT p.2) := rfl
theorem w4 : IntKind.i64.wrap 0 = 0 ∧ IntKind.i64.wrap 1 = 1 ∧ IntKind.i64.wrap 2 = 2 ∧ IntKind.i64.wrap 3 = 3 := by decide
def cC (r0 r1 r2 r3 : Rat) (n : Nat) : List PV := [if 0 < n then rtP r0 else e0, if 1 < n then rtP r1 else e0, if 2 < n then rtP r2 else e0, if 3 < n then rtP r3 else e0]
end Gb
namespace Go.Proofs.YthhefojkkgjcfaaGreatDoor.S
open Go Go.Sx Go.RowKit Gb Go.Shelf
set_option maxRecDepth 100000 in
set_option maxHeartbeats 4000000 in
theorem isign2_n (a b : List UInt8) (ha : a.length < 35000) (hb : b.length < 35000) : Meets Tryz.prog Gd 35 [ivP a b] (isignP a b) := by
  refine meets_of_vc (Y := {}) (N := 22) (rs := [.tmp 2, .tmp 3, .tmp 4]) mix tk gd Tryz.func35 rfl (by kernel_rfl) rfl rfl (by simp) (by kernel_rfl) ?_
  unfold isignP
  simp (maxSteps := 10000000) only [↓sx, sx, ↓ty, ↓reduceIte, Nat.reduceEqDiff, Nat.reduceAdd, ls, Nat.reduceAdd, Nat.le_refl, pi]
  refine CallT.mk (ivalid2_n a b (by omega) (by omega)) ?_
  cases h : isIv a b with
  | false =>
    simp only [Bool.false_eq_true, if_false]
    simp (maxSteps := 10000000) only [↓sx, sx, ↓reduceIte, Nat.reduceEqDiff, pc]
  | true =>
    simp only [if_true]
    obtain ⟨h1, h2, h3⟩ := isIv_spec h
    obtain ⟨a, rfl, sa⟩ := rT_of h1
    obtain ⟨b, rfl, sb⟩ := rT_of h2
    rw [ratOf_rT a, ratOf_rT b]
    simp (maxSteps := 10000000) only [↓sx, sx, ↓ty, ↓reduceIte, Nat.reduceEqDiff, Nat.reduceAdd, ne_eq, not_false_eq_true, ls, Nat.reduceAdd]
    refine CallT.to (less_q 0 a (Sz.int (z := 0) (by rw [Int.natAbs_zero, Lw_zero]; omega) (by omega)) (sa.mono (by omega))) (by rw [rtP_0]; rfl) ?_
    by_cases c1 : 0 < a
    · simp only [c1, decide_true, if_true]
      simp (maxSteps := 10000000) only [↓sx, sx, ↓reduceIte, Nat.reduceEqDiff, pc]
    · simp only [c1, decide_false, if_false]
      simp (maxSteps := 10000000) only [↓sx, sx, ↓ty, ↓reduceIte, Nat.reduceEqDiff, Nat.reduceAdd, ne_eq, not_false_eq_true, ls, Nat.reduceAdd]
      refine CallT.to (less_q b 0 (sb.mono (by omega)) (Sz.int (z := 0) (by rw [Int.natAbs_zero, Lw_zero]; omega) (by omega))) (by rw [rtP_0]; rfl) ?_
      by_cases c2 : b < 0
      · simp only [c2, decide_true, if_true]
        simp (maxSteps := 10000000) only [↓sx, sx, ↓reduceIte, Nat.reduceEqDiff, pc]
      · simp only [c2, decide_false, if_false]
        simp (maxSteps := 10000000) only [↓sx, sx, ↓ty, ↓reduceIte, Nat.reduceEqDiff, Nat.reduceAdd, ne_eq, not_false_eq_true, pc, ls, Nat.reduceAdd]
set_option maxRecDepth 100000 in
set_option maxHeartbeats 4000000 in
theorem corners_ok (g : FuncId) (f : Rat → Rat → Rat) (a1 a2 b1 b2 : Rat) (ha : a1 ≤ a2) (hb : b1 ≤ b2) (sa1 : Sz 1500 a1) (sa2 : Sz 1500 a2) (sb1 : Sz 1500 b1) (sb2 : Sz 1500 b2)
    (hm : ∀ x y, (x = a1 ∨ x = a2) → (y = b1 ∨ y = b2) → Meets Tryz.prog Gd g [rtP x, rtP y] (.tup [rtP (f x y), iP 0]) ∧ Sz 4000 (f x y)) :
    Meets Tryz.prog Gd 74 [.clo g [] [], ivQ (a1, a2), ivQ (b1, b2)] (.tup [ivQ (endsQ (f a1 b1, f a1 b1) [f a1 b2, f a2 b1, f a2 b2]), iP 0]) := by
  refine meets_of_vc (Y := { sf := [167] }) (N := 56) (rs := [.cell 6 24, .tmp 7]) mix tk gd Tryz.func74 rfl (by kernel_rfl) rfl rfl (by simp) (by kernel_rfl) ?_
  have la1 := rT_len sa1
  have la2 := rT_len sa2
  have lb1 := rT_len sb1
  have lb2 := rT_len sb2
  simp (maxSteps := 10000000) only [↓sx, sx, ↓ty, ↓reduceIte, Nat.reduceEqDiff, Nat.reduceAdd, ls, Nat.reduceAdd, Nat.le_refl, pi]
  refine CallT.mk (ivalid2_n (rT a1) (rT a2) (by omega) (by omega)) ?_
  rw [isIv_rT ha]
  simp (maxSteps := 10000000) only [↓sx, sx, ↓ty, ↓reduceIte, Nat.reduceEqDiff, Nat.reduceAdd, Nat.reduceLT, ls, Nat.reduceAdd, Nat.le_refl]
  refine CallT.mk (ivalid2_n (rT b1) (rT b2) (by omega) (by omega)) ?_
  rw [isIv_rT hb]
  simp (maxSteps := 10000000) only [↓sx, sx, ↓ty, ↓reduceIte, Nat.reduceEqDiff, Nat.reduceAdd, Nat.reduceLeDiff, Nat.reduceLT, ne_eq, not_false_eq_true, ls, and_self, Nat.reduceAdd, Nat.le_refl]
  have e00 : e0 = .val (.string ⟨#[]⟩) := rfl
  refine loopK_of (fun i : Nat => [(0, .p (.clo g [] [])), (5, .box 5 0), (6, .box 6 0), (8, .box 8 0), (26, .p (.agg [rtP a1, rtP a2])), (27, .p (.val (.int .i64 (i : Nat))))]) (fun i => [(5, (24, [rtP b1, rtP b2])), (6, (24, [e0, e0])), (8, (167, cC (f a1 b1) (f a1 b2) (f a2 b1) (f a2 b2) (2 * i)))]) (fun _ => []) (fun i => i ≤ 2) (fun i => 2 - i) 0 (Nat.zero_le _) ?_ ?_
  · simp (maxSteps := 10000000) only [isE_nil, is_cons, bo_p, bo_box, any_cons', all_cons', all_nil', Bool.true_or, Bool.or_true, ↓sx, sx, ↓reduceIte, Nat.reduceEqDiff, Nat.reduceBeqDiff]
    trivial
  · intro i hi
    have hi3 : i = 0 ∨ i = 1 ∨ i = 2 := by omega
    rcases hi3 with rfl | rfl | rfl
    · simp (maxSteps := 10000000) only [↓sx, sx, ↓ty, ↓reduceIte, Nat.reduceEqDiff, Nat.reduceAdd, Nat.reduceLeDiff, Nat.reduceLT, Nat.reduceMul, ne_eq, not_false_eq_true, pc, ls, and_self, Nat.reduceAdd, Nat.le_refl, cC, Nat.reduceLT, e00, Int.cast_ofNat_Int, Int.reduceLT, decide_true]
      refine ⟨by omega, loopK_of (fun k : Nat => [(0, .p (.clo g [] [])), (5, .box 5 0), (6, .box 6 0), (8, .box 8 0), (26, .p (.agg [rtP a1, rtP a2])), (27, .p (.val (.int .i64 0))), (9, .p (.val (.int .i64 0))), (10, .p (rtP a1)), (35, .p (.agg [rtP b1, rtP b2])), (36, .p (.val (.int .i64 (k : Nat))))]) (fun k => [(5, (24, [rtP b1, rtP b2])), (6, (24, [e0, e0])), (8, (167, cC (f a1 b1) (f a1 b2) (f a2 b1) (f a2 b2) (0 + k)))]) (fun _ => []) (fun k => k ≤ 2) (fun k => 2 - k) 0 (Nat.zero_le _) ?_ ?_⟩
      · simp (maxSteps := 10000000) only [isE_nil, is_cons, bo_p, bo_box, any_cons', all_cons', all_nil', Bool.true_or, Bool.or_true, ↓sx, sx, ↓reduceIte, Nat.reduceEqDiff, Nat.reduceBeqDiff]
        trivial
      · intro k hk
        have hk3 : k = 0 ∨ k = 1 ∨ k = 2 := by omega
        rcases hk3 with rfl | rfl | rfl
        · simp (maxSteps := 10000000) only [↓sx, sx, ↓ty, ↓reduceIte, Nat.reduceEqDiff, Nat.reduceAdd, Nat.reduceLeDiff, Nat.reduceLT, pc, ls, and_self, Nat.reduceAdd, cC, Nat.reduceLT, e00, Int.cast_ofNat_Int, Int.reduceLT, decide_true, Int.reduceMul, Int.reduceAdd, w4]
          refine ⟨by omega, CallT.mk (hm a1 b1 (.inl rfl) (.inl rfl)).1 ?_⟩
          simp (maxSteps := 10000000) only [↓sx, sx, ↓ty, ↓reduceIte, Nat.reduceEqDiff, Nat.reduceAdd, Nat.reduceLeDiff, Nat.reduceLT, pc, ls, bs, and_self, Nat.reduceAdd, Nat.reduceLT, e00, Int.reduceAdd, w4]
          refine ⟨by omega, NextK.mk 1 (by omega) (by omega) ?_⟩
          simp (maxSteps := 10000000) only [isE_nil, is_cons, bo_p, bo_box, any_cons', all_cons', all_nil', Bool.true_or, Bool.or_true, ↓sx, sx, ↓reduceIte, Nat.reduceEqDiff, Nat.reduceBeqDiff]
          trivial
        · simp (maxSteps := 10000000) only [↓sx, sx, ↓ty, ↓reduceIte, Nat.reduceEqDiff, Nat.reduceAdd, Nat.reduceLT, pc, ls, and_self, Nat.reduceAdd, Nat.le_refl, cC, Nat.reduceLT, e00, Int.cast_ofNat_Int, Int.reduceLT, decide_true, Int.reduceMul, Int.reduceAdd, w4, Int.reduceToNat]
          refine ⟨by omega, CallT.mk (hm a1 b2 (.inl rfl) (.inr rfl)).1 ?_⟩
          simp (maxSteps := 10000000) only [↓sx, sx, ↓ty, ↓reduceIte, Nat.reduceEqDiff, Nat.reduceAdd, Nat.reduceLeDiff, Nat.reduceLT, pc, ls, bs, and_self, Nat.reduceAdd, Nat.reduceLT, e00, Int.reduceAdd, w4, Int.reduceToNat]
          refine ⟨by omega, NextK.mk 2 (by omega) (by omega) ?_⟩
          simp (maxSteps := 10000000) only [isE_nil, is_cons, bo_p, bo_box, any_cons', all_cons', all_nil', Bool.true_or, Bool.or_true, ↓sx, sx, ↓reduceIte, Nat.reduceEqDiff, Nat.reduceBeqDiff]
          trivial
        · simp (maxSteps := 10000000) only [↓sx, sx, ↓reduceIte, Nat.reduceEqDiff, Nat.reduceAdd, Nat.reduceLT, pc, Nat.reduceAdd, cC, Nat.reduceLT, e00, Int.cast_ofNat_Int, Int.reduceLT, decide_false, Int.reduceAdd, w4]
          refine NextK.mk 1 (by omega) (by omega) ?_
          simp (maxSteps := 10000000) only [isE_nil, is_cons, bo_p, bo_box, any_cons', all_cons', all_nil', Bool.true_or, Bool.or_true, ↓sx, sx, ↓reduceIte, Nat.reduceEqDiff, Nat.reduceBeqDiff]
          trivial
    · simp (maxSteps := 10000000) only [↓sx, sx, ↓ty, ↓reduceIte, Nat.reduceEqDiff, Nat.reduceAdd, Nat.reduceLeDiff, Nat.reduceLT, ne_eq, not_false_eq_true, pc, ls, and_self, Nat.reduceAdd, Nat.le_refl, cC, Nat.reduceLT, e00, Int.cast_ofNat_Int, Int.reduceLT, decide_true, Int.reduceToNat]
      refine ⟨by omega, loopK_of (fun k : Nat => [(0, .p (.clo g [] [])), (5, .box 5 0), (6, .box 6 0), (8, .box 8 0), (26, .p (.agg [rtP a1, rtP a2])), (27, .p (.val (.int .i64 1))), (9, .p (.val (.int .i64 1))), (10, .p (rtP a2)), (35, .p (.agg [rtP b1, rtP b2])), (36, .p (.val (.int .i64 (k : Nat))))]) (fun k => [(5, (24, [rtP b1, rtP b2])), (6, (24, [e0, e0])), (8, (167, cC (f a1 b1) (f a1 b2) (f a2 b1) (f a2 b2) (2 + k)))]) (fun _ => []) (fun k => k ≤ 2) (fun k => 2 - k) 0 (Nat.zero_le _) ?_ ?_⟩
      · simp (maxSteps := 10000000) only [isE_nil, is_cons, bo_p, bo_box, any_cons', all_cons', all_nil', Bool.true_or, Bool.or_true, ↓sx, sx, ↓reduceIte, Nat.reduceEqDiff, Nat.reduceBeqDiff]
        trivial
      · intro k hk
        have hk3 : k = 0 ∨ k = 1 ∨ k = 2 := by omega
        rcases hk3 with rfl | rfl | rfl
        · simp (maxSteps := 10000000) only [↓sx, sx, ↓ty, ↓reduceIte, Nat.reduceEqDiff, Nat.reduceAdd, Nat.reduceLeDiff, Nat.reduceLT, pc, ls, and_self, Nat.reduceAdd, cC, Nat.reduceLT, e00, Int.cast_ofNat_Int, Int.reduceLT, decide_true, Int.reduceMul, Int.reduceAdd, w4]
          refine ⟨by omega, CallT.mk (hm a2 b1 (.inr rfl) (.inl rfl)).1 ?_⟩
          simp (maxSteps := 10000000) only [↓sx, sx, ↓ty, ↓reduceIte, Nat.reduceEqDiff, Nat.reduceAdd, Nat.reduceLeDiff, Nat.reduceLT, pc, ls, bs, and_self, Nat.reduceAdd, Nat.reduceLT, e00, Int.reduceAdd, w4, Int.reduceToNat]
          refine ⟨by omega, NextK.mk 1 (by omega) (by omega) ?_⟩
          simp (maxSteps := 10000000) only [isE_nil, is_cons, bo_p, bo_box, any_cons', all_cons', all_nil', Bool.true_or, Bool.or_true, ↓sx, sx, ↓reduceIte, Nat.reduceEqDiff, Nat.reduceBeqDiff]
          trivial
        · simp (maxSteps := 10000000) only [↓sx, sx, ↓ty, ↓reduceIte, Nat.reduceEqDiff, Nat.reduceAdd, Nat.reduceLT, pc, ls, and_self, Nat.reduceAdd, Nat.le_refl, cC, Nat.reduceLT, e00, Int.cast_ofNat_Int, Int.reduceLT, decide_true, Int.reduceMul, Int.reduceAdd, w4, Int.reduceToNat]
          refine ⟨by omega, CallT.mk (hm a2 b2 (.inr rfl) (.inr rfl)).1 ?_⟩
          simp (maxSteps := 10000000) only [↓sx, sx, ↓ty, ↓reduceIte, Nat.reduceEqDiff, Nat.reduceAdd, Nat.reduceLT, pc, ls, bs, and_self, Nat.reduceAdd, Nat.le_refl, Nat.reduceLT, e00, Int.reduceAdd, w4, Int.reduceToNat]
          refine ⟨by omega, NextK.mk 2 (by omega) (by omega) ?_⟩
          simp (maxSteps := 10000000) only [isE_nil, is_cons, bo_p, bo_box, any_cons', all_cons', all_nil', Bool.true_or, Bool.or_true, ↓sx, sx, ↓reduceIte, Nat.reduceEqDiff, Nat.reduceBeqDiff]
          trivial
        · simp (maxSteps := 10000000) only [↓sx, sx, ↓reduceIte, Nat.reduceEqDiff, Nat.reduceAdd, Nat.reduceLT, pc, Nat.reduceAdd, cC, Nat.reduceLT, e00, Int.cast_ofNat_Int, Int.reduceLT, decide_false, Int.reduceAdd, w4]
          refine NextK.mk 2 (by omega) (by omega) ?_
          simp (maxSteps := 10000000) only [isE_nil, is_cons, bo_p, bo_box, any_cons', all_cons', all_nil', Bool.true_or, Bool.or_true, ↓sx, sx, ↓reduceIte, Nat.reduceEqDiff, Nat.reduceBeqDiff]
          trivial
    · simp (maxSteps := 10000000) only [↓sx, sx, ↓ty, ↓reduceIte, Nat.reduceEqDiff, Nat.reduceLT, Nat.reduceMul, pc, ls, cC, Nat.reduceLT, e00, Int.cast_ofNat_Int, Int.reduceLT, decide_false, Int.reduceToNat]
      have k11 := (hm a1 b1 (.inl rfl) (.inl rfl)).2
      have k12 := (hm a1 b2 (.inl rfl) (.inr rfl)).2
      have k21 := (hm a2 b1 (.inr rfl) (.inl rfl)).2
      have k22 := (hm a2 b2 (.inr rfl) (.inr rfl)).2
      refine ⟨by omega, CallT.mk (ends_n (f a1 b1) [f a1 b2, f a2 b1, f a2 b2] k11 (by simp [k12, k21, k22]) (by simp)) ?_⟩
      simp (maxSteps := 10000000) only [↓sx, sx, ↓ty, ↓reduceIte, Nat.reduceEqDiff, Nat.reduceAdd, pc, ls, bs, and_self, Nat.reduceAdd, Nat.le_refl, pi]
set_option maxRecDepth 100000 in
theorem corners_no (g : FuncId) (a1 a2 b1 b2 : List UInt8) (ha1 : a1.length < 90000) (ha2 : a2.length < 90000) (hb1 : b1.length < 90000) (hb2 : b2.length < 90000) (h : (isIv a1 a2 && isIv b1 b2) = false) :
    Meets Tryz.prog Gd 74 [.clo g [] [], ivP a1 a2, ivP b1 b2] (.tup [ivP [] [], iP 1]) := by
  refine meets_of_vc (Y := { sf := [167] }) (N := 56) (rs := [.cell 6 24, .tmp 7]) mix tk gd Tryz.func74 rfl (by kernel_rfl) rfl rfl (by simp) (by kernel_rfl) ?_
  simp (maxSteps := 10000000) only [↓sx, sx, ↓ty, ↓reduceIte, Nat.reduceEqDiff, Nat.reduceAdd, ls, Nat.reduceAdd, Nat.le_refl, pi]
  refine CallT.mk (ivalid2_n a1 a2 ha1 ha2) ?_
  cases h1 : isIv a1 a2 with
  | false =>
    simp (maxSteps := 10000000) only [↓sx, sx, ↓ty, ↓reduceIte, Nat.reduceEqDiff, Nat.reduceAdd, Nat.reduceLT, pc, ls, bs, and_self, Nat.reduceAdd, Nat.le_refl, pi]
  | true =>
    rw [h1, Bool.true_and] at h
    simp (maxSteps := 10000000) only [↓sx, sx, ↓ty, ↓reduceIte, Nat.reduceEqDiff, Nat.reduceAdd, Nat.reduceLT, ls, Nat.reduceAdd, Nat.le_refl]
    refine CallT.mk (ivalid2_n b1 b2 hb1 hb2) ?_
    rw [h]
    simp (maxSteps := 10000000) only [↓sx, sx, ↓ty, ↓reduceIte, Nat.reduceEqDiff, Nat.reduceAdd, Nat.reduceLT, pc, ls, bs, and_self, Nat.reduceAdd, Nat.le_refl, pi]
end Go.Proofs.YthhefojkkgjcfaaGreatDoor.S
namespace Gb
open Go Go.RowKit Go.Sx
def corQ (f : Rat → Rat → Rat) (a1 a2 b1 b2 : Rat) : Rat × Rat := endsQ (f a1 b1, f a1 b1) [f a1 b2, f a2 b1, f a2 b2]
def icorP (f : Rat → Rat → Rat) (a1 a2 b1 b2 : List UInt8) : PV := if isIv a1 a2 && isIv b1 b2 then .tup [ivQ (corQ f (ratOf a1) (ratOf a2) (ratOf b1) (ratOf b2)), iP 0] else .tup [ivP [] [], iP 1]
theorem ratOf_0 : ratOf [48] = 0 := by
  have := ratOf_rT 0
  rwa [rT_0] at this
theorem isRat_0 : isRat [48] = true := by
  have := isRat_rT 0
  rwa [rT_0] at this
theorem Sz0 (k : Nat) (hk : 1 ≤ k) : Sz k 0 := Sz.int (z := 0) (by rw [Int.natAbs_zero, Lw_zero]; omega) hk
end Gb
namespace Go.Proofs.YthhefojkkgjcfaaGreatDoor.S
open Go Go.Sx Go.RowKit Gb Go.Shelf
theorem rop_q {F : FuncId} {f : Rat → Rat → Rat} (h : ∀ a b : List UInt8, a.length < 90000 → b.length < 90000 → Meets Tryz.prog Gd F [strP a, strP b] (ropP f a b)) (x y : Rat) (hx : Sz 4000 x) (hy : Sz 4000 y) :
    Meets Tryz.prog Gd F [rtP x, rtP y] (.tup [rtP (f x y), iP 0]) := by
  have := h (rT x) (rT y) (by have := rT_len hx; omega) (by have := rT_len hy; omega)
  unfold ropP at this
  rw [isRat_rT, isRat_rT, ratOf_rT, ratOf_rT] at this
  exact this
theorem cor_q {F : FuncId} (f : Rat → Rat → Rat) (a1 a2 b1 b2 : List UInt8) (ha1 : a1.length < 13000) (ha2 : a2.length < 13000) (hb1 : b1.length < 13000) (hb2 : b2.length < 13000)
    (h : isIv a1 a2 = true → isIv b1 b2 = true → ∀ x y, Sz 1500 x → Sz 1500 y → (y = ratOf b1 ∨ y = ratOf b2) → Meets Tryz.prog Gd F [rtP x, rtP y] (.tup [rtP (f x y), iP 0]) ∧ Sz 4000 (f x y)) :
    Meets Tryz.prog Gd 74 [.clo F [] [], ivP a1 a2, ivP b1 b2] (icorP f a1 a2 b1 b2) := by
  unfold icorP
  cases hv : (isIv a1 a2 && isIv b1 b2) with
  | false => exact corners_no F a1 a2 b1 b2 (by omega) (by omega) (by omega) (by omega) hv
  | true =>
    obtain ⟨h1, h2⟩ := and_split hv
    replace h := h h1 h2
    obtain ⟨v1, v2, v3⟩ := isIv_spec h1
    obtain ⟨v4, v5, v6⟩ := isIv_spec h2
    obtain ⟨a1, rfl, sa1⟩ := rT_of v1
    obtain ⟨a2, rfl, sa2⟩ := rT_of v2
    obtain ⟨b1, rfl, sb1⟩ := rT_of v4
    obtain ⟨b2, rfl, sb2⟩ := rT_of v5
    rw [ratOf_rT, ratOf_rT] at h v3 v6
    rw [ratOf_rT, ratOf_rT, ratOf_rT, ratOf_rT]
    have sa1 := sa1.mono (m := 1500) (by omega)
    have sa2 := sa2.mono (m := 1500) (by omega)
    have sb1 := sb1.mono (m := 1500) (by omega)
    have sb2 := sb2.mono (m := 1500) (by omega)
    refine corners_ok F f a1 a2 b1 b2 v3 v6 sa1 sa2 sb1 sb2 fun x y hx hy => ?_
    refine h x y ?_ ?_ hy
    · rcases hx with rfl | rfl
      · exact sa1
      · exact sa2
    · rcases hy with rfl | rfl
      · exact sb1
      · exact sb2
set_option maxRecDepth 100000 in
theorem iadd2_n (a1 a2 b1 b2 : List UInt8) (ha1 : a1.length < 13000) (ha2 : a2.length < 13000) (hb1 : b1.length < 13000) (hb2 : b2.length < 13000) : Meets Tryz.prog Gd 34 [ivP a1 a2, ivP b1 b2] (icorP (· + ·) a1 a2 b1 b2) := by
  refine meets_of_vc (Y := {}) (N := 11) (rs := [.cell 4 24, .tmp 5]) mix tk gd Tryz.func34 rfl (by kernel_rfl) rfl rfl (by simp) (by kernel_rfl) ?_
  simp (maxSteps := 10000000) only [↓sx, sx, ↓ty, ↓reduceIte, Nat.reduceEqDiff, Nat.reduceAdd, ls, Nat.reduceAdd, Nat.le_refl, pi]
  refine CallT.mk (cor_q (· + ·) a1 a2 b1 b2 ha1 ha2 hb1 hb2 fun _ _ x y hx hy _ => ⟨rop_q radd_n x y (hx.mono (by omega)) (hy.mono (by omega)), (hx.add hy).mono (by omega)⟩) ?_
  unfold icorP
  split
  · simp (maxSteps := 10000000) only [↓sx, sx, ↓ty, ↓reduceIte, Nat.reduceEqDiff, Nat.reduceAdd, pc, ls, bs, and_self, Nat.reduceAdd, Nat.le_refl, pi]
  · simp (maxSteps := 10000000) only [↓sx, sx, ↓ty, ↓reduceIte, Nat.reduceEqDiff, Nat.reduceAdd, pc, ls, bs, and_self, Nat.reduceAdd, Nat.le_refl, pi]
set_option maxRecDepth 100000 in
theorem imul2_n (a1 a2 b1 b2 : List UInt8) (ha1 : a1.length < 13000) (ha2 : a2.length < 13000) (hb1 : b1.length < 13000) (hb2 : b2.length < 13000) : Meets Tryz.prog Gd 33 [ivP a1 a2, ivP b1 b2] (icorP (· * ·) a1 a2 b1 b2) := by
  refine meets_of_vc (Y := {}) (N := 11) (rs := [.cell 4 24, .tmp 5]) mix tk gd Tryz.func33 rfl (by kernel_rfl) rfl rfl (by simp) (by kernel_rfl) ?_
  simp (maxSteps := 10000000) only [↓sx, sx, ↓ty, ↓reduceIte, Nat.reduceEqDiff, Nat.reduceAdd, ls, Nat.reduceAdd, Nat.le_refl, pi]
  refine CallT.mk (cor_q (· * ·) a1 a2 b1 b2 ha1 ha2 hb1 hb2 fun _ _ x y hx hy _ => ⟨rop_q rmul_n x y (hx.mono (by omega)) (hy.mono (by omega)), (hx.mul hy).mono (by omega)⟩) ?_
  unfold icorP
  split
  · simp (maxSteps := 10000000) only [↓sx, sx, ↓ty, ↓reduceIte, Nat.reduceEqDiff, Nat.reduceAdd, pc, ls, bs, and_self, Nat.reduceAdd, Nat.le_refl, pi]
  · simp (maxSteps := 10000000) only [↓sx, sx, ↓ty, ↓reduceIte, Nat.reduceEqDiff, Nat.reduceAdd, pc, ls, bs, and_self, Nat.reduceAdd, Nat.le_refl, pi]
end Go.Proofs.YthhefojkkgjcfaaGreatDoor.S
namespace Gb
open Go Go.RowKit Go.Sx
theorem rT_int (z : Int) : rT (z : Rat) = iD z := by unfold rT; rw [Rat.den_intCast, if_pos rfl, Rat.num_intCast]
theorem Lw_floor {x : Rat} {k : Nat} (h : Sz k x) : Lw x.floor.natAbs ≤ k + 2 := by
  have := h.1
  rw [Rat.floor_def]
  have := Lw_ediv x.num (x.den : Int) (by have := x.den_nz; omega)
  omega
end Gb
namespace Go.Proofs.YthhefojkkgjcfaaGreatDoor.S
open Go Go.Sx Go.RowKit Gb Go.Shelf
theorem itoa_n (z : Int) (h1 : -9223372036854775808 ≤ z) (h2 : z ≤ 9223372036854775807) : Meets Tryz.prog Gd 69 [iP z] (siP z) := by
  refine meets_val [.int .i64 z] (.string ⟨(iD z).toArray⟩) (enters_of Tryz.func69 (by kernel_rfl) rfl) ?_ ?_
  · intro B w
    simp [siP_c, RepP]
  · intro w hw
    refine (Tryz.strconv_Itoa z h1 h2 w hw).mono ?_
    rintro e w' ⟨rfl, k, os, rfl⟩
    rw [itoa_iD]
    exact ⟨rfl, Lib.below_grow _ w (Nat.le_refl _) k os⟩
end Go.Proofs.YthhefojkkgjcfaaGreatDoor.S
namespace Gb
open Go Go.RowKit Go.Sx
end Gb
namespace Go.Proofs.YthhefojkkgjcfaaGreatDoor.S
open Go Go.Sx Go.RowKit Gb Go.Shelf
end Go.Proofs.YthhefojkkgjcfaaGreatDoor.S
namespace Gb
open Go Go.RowKit Go.Sx
def leastQ (x y : Rat) : Rat := if x ≤ y then x else y
def mostQ (x y : Rat) : Rat := if y ≤ x then x else y
def SzI (k : Nat) (p : Rat × Rat) : Prop := Sz k p.1 ∧ Sz k p.2
theorem SzI.mono {k m : Nat} {p : Rat × Rat} (h : SzI k p) (hm : k ≤ m) : SzI m p := ⟨h.1.mono hm, h.2.mono hm⟩
def rd (a : List UInt8) : Rat := if isRat a then ratOf a else 0
end Gb
namespace Go.Proofs.YthhefojkkgjcfaaGreatDoor.S
open Go Go.Sx Go.RowKit Gb Go.Shelf
end Go.Proofs.YthhefojkkgjcfaaGreatDoor.S
namespace Gb
open Go Go.RowKit Go.Sx
theorem ends4 (p q r s : Rat) : endsQ (p, p) [q, r, s] = (leastQ (leastQ p r) (leastQ q s), mostQ (mostQ p r) (mostQ q s)) := by
  simp only [endsQ, List.foldl, leastQ, mostQ]
  grind
theorem leastQ_l {x y : Rat} (h : x ≤ y) : leastQ x y = x := by unfold leastQ; rw [if_pos h]
theorem mostQ_r {x y : Rat} (h : x ≤ y) : mostQ x y = y := by unfold mostQ; split <;> grind
theorem corQ_add {a1 a2 b1 b2 : Rat} (ha : a1 ≤ a2) (hb : b1 ≤ b2) : corQ (· + ·) a1 a2 b1 b2 = (a1 + b1, a2 + b2) := by
  unfold corQ
  rw [ends4]
  dsimp only
  rw [leastQ_l (show a1 + b1 ≤ a2 + b1 by grind), leastQ_l (show a1 + b2 ≤ a2 + b2 by grind), leastQ_l (show a1 + b1 ≤ a1 + b2 by grind),
    mostQ_r (show a1 + b1 ≤ a2 + b1 by grind), mostQ_r (show a1 + b2 ≤ a2 + b2 by grind), mostQ_r (show a2 + b1 ≤ a2 + b2 by grind)]
theorem sq_nonneg (a : Rat) : 0 ≤ a * a := by
  by_cases h : 0 ≤ a
  · exact Rat.mul_nonneg h h
  · have : 0 ≤ -a * -a := Rat.mul_nonneg (by grind) (by grind)
    grind
theorem sign_lt0 (x : Rat) : x.num.sign < 0 ↔ x < 0 := by
  have := lt_sign x 0
  rwa [show x - 0 = x by grind] at this
end Gb
namespace Gb
open Go Go.RowKit Go.Sx
theorem mul_mono {a b x : Rat} (h : a ≤ b) (hx : 0 ≤ x) : a * x ≤ b * x := by have := Rat.mul_nonneg (show 0 ≤ b - a by grind) hx; grind
theorem mul_anti {a b x : Rat} (h : a ≤ b) (hx : x ≤ 0) : b * x ≤ a * x := by have := Rat.mul_nonneg (show 0 ≤ b - a by grind) (show 0 ≤ -x by grind); grind
theorem icor_q (f : Rat → Rat → Rat) {a1 a2 b1 b2 : Rat} (ha : a1 ≤ a2) (hb : b1 ≤ b2) : icorP f (rT a1) (rT a2) (rT b1) (rT b2) = .tup [ivQ (corQ f a1 a2 b1 b2), iP 0] := by
  unfold icorP
  rw [isIv_rT ha, isIv_rT hb]
  simp only [Bool.and_self, if_true, ratOf_rT]
end Gb
namespace Gb
open Go Go.RowKit Go.Sx
theorem Sz1 (k : Nat) (hk : 1 ≤ k) : Sz k 1 := Sz.int (z := 1) (Nat.le_trans (Lw_le (by decide)) hk) hk
end Gb
namespace Gb
open Go Go.RowKit Go.Sx
def isRt (n r : Nat) : Prop := r * r ≤ n ∧ n < (r + 1) * (r + 1)
theorem rt_ex : ∀ n : Nat, ∃ r, isRt n r
  | 0 => ⟨0, by unfold isRt; omega⟩
  | n + 1 => by
    obtain ⟨r, h1, h2⟩ := rt_ex n
    by_cases h : n + 1 < (r + 1) * (r + 1)
    · exact ⟨r, by omega, h⟩
    · refine ⟨r + 1, by omega, ?_⟩
      have : (r + 1 + 1) * (r + 1 + 1) = (r + 1) * (r + 1) + 2 * (r + 1) + 1 := by grind
      omega
theorem sq_lt {a b : Nat} (h : a < b) : (a + 1) * (a + 1) ≤ b * b := Nat.mul_le_mul h h
theorem sq_le_iff {a b : Nat} : a * a ≤ b * b ↔ a ≤ b := by
  constructor
  · intro h
    by_cases hc : a ≤ b
    · exact hc
    · have := sq_lt (show b < a by omega)
      have : b * b < (b + 1) * (b + 1) := by grind
      omega
  · exact fun h => Nat.mul_le_mul h h
theorem sq_lt_iff {a b : Nat} : a * a < b * b ↔ a < b := by
  have := sq_le_iff (a := b) (b := a)
  omega
theorem isRt.uniq {n r s : Nat} (h1 : isRt n r) (h2 : isRt n s) : r = s := by
  have a1 : r < s + 1 := sq_lt_iff.1 (Nat.lt_of_le_of_lt h1.1 h2.2)
  have a2 : s < r + 1 := sq_lt_iff.1 (Nat.lt_of_le_of_lt h2.1 h1.2)
  omega
noncomputable def rt (n : Nat) : Nat := (rt_ex n).choose
theorem rt_spec (n : Nat) : isRt n (rt n) := (rt_ex n).choose_spec
theorem rt_eq {n r : Nat} (h : isRt n r) : rt n = r := (rt_spec n).uniq h
theorem newton_ge {n x : Nat} (hx : 0 < x) : n < ((x + n / x) / 2 + 1) * ((x + n / x) / 2 + 1) := by
  have h1 : n < x * (n / x + 1) := by
    have := Nat.div_add_mod n x
    have := Nat.mod_lt n hx
    grind
  generalize n / x = q at *
  obtain ⟨k, hk⟩ : ∃ k, k = (x + q) / 2 := ⟨_, rfl⟩
  rw [← hk]
  have h2 : x + q + 1 ≤ 2 * (k + 1) := by omega
  have h3 : (x + q + 1) * (x + q + 1) ≤ (2 * (k + 1)) * (2 * (k + 1)) := Nat.mul_le_mul h2 h2
  have h4 : 4 * (x * (q + 1)) ≤ (x + q + 1) * (x + q + 1) := by
    have hh : ((x : Int) - (q + 1)) * ((x : Int) - (q + 1)) ≥ 0 := by
      by_cases h : (x : Int) - (q + 1) ≥ 0
      · exact Int.mul_nonneg h h
      · have := Int.mul_nonneg (show 0 ≤ -((x : Int) - (q + 1)) by omega) (show 0 ≤ -((x : Int) - (q + 1)) by omega)
        grind
    have : (4 * ((x : Int) * (q + 1))) ≤ (x + q + 1) * (x + q + 1) := by grind
    exact_mod_cast this
  have h5 : (2 * (k + 1)) * (2 * (k + 1)) = 4 * ((k + 1) * (k + 1)) := by grind
  omega
theorem newton_stop {n x : Nat} (hx : 0 < x) (h1 : n < (x + 1) * (x + 1)) (h2 : x ≤ (x + n / x) / 2) : isRt n x := by
  refine ⟨?_, h1⟩
  have h3 : x ≤ n / x := by omega
  have := Nat.mul_le_mul_left x h3
  have := Nat.mul_div_le n x
  omega
theorem newton_pos {n x : Nat} (hn : 0 < n) (hx : 0 < x) : 0 < (x + n / x) / 2 := by
  have h := newton_ge (n := n) hx
  cases hq : (x + n / x) / 2 with
  | zero =>
    rw [hq] at h
    have : n = 0 := by omega
    omega
  | succ k => omega
end Gb
namespace Gb
open Go Go.RowKit Go.Sx
theorem rep_zeros : ∀ c, Lib.repeatL [48] c = List.replicate c 48
  | 0 => rfl
  | c + 1 => by rw [Lib.repeatL, rep_zeros c]; rfl
theorem natOf_ten (c : Nat) : natOf (49 :: List.replicate c 48) = 10 ^ c := by
  rw [show (49 : UInt8) :: List.replicate c 48 = [49] ++ List.replicate c 48 from rfl, natOf_append, natOf_zeros, List.length_replicate]
  simp [natOf]
theorem Lw_ten (c : Nat) : Lw (10 ^ c) ≤ c / 9 + 1 := by
  refine Lw_le ?_
  rw [show (1000000000 : Nat) = 10 ^ 9 from rfl, ← Nat.pow_mul]
  exact Nat.pow_lt_pow_right (by omega) (by omega)
end Gb
namespace Go.Proofs.YthhefojkkgjcfaaGreatDoor.S
open Go Go.Sx Go.RowKit Gb Go.Shelf
theorem repeat_n (l : List UInt8) (c : Nat) (hc : l.length * c ≤ 140737488355328) (hc2 : c ≤ 9223372036854775807) : Meets Tryz.prog Gd 79 [strP l, iP c] (strP (Lib.repeatL l c)) := by
  refine meets_val [.string ⟨l.toArray⟩, .int .i64 c] (.string ⟨(Lib.repeatL l c).toArray⟩) (enters_of Tryz.func79 (by kernel_rfl) rfl) ?_ ?_
  · intro B w
    simp [strP_c, RepP]
  · intro w hw
    have := Tryz.strings_Repeat ⟨l.toArray⟩ c w hc2 (by simpa [ByteArray.size] using hc)
    exact this
set_option maxRecDepth 100000 in
set_option maxHeartbeats 4000000 in
theorem nroot_n (n r : Nat) (hn : Lw n < 40000) (hr : isRt n r) : Meets Tryz.prog Gd 40 [dP n] (.tup [dP r, iP 0]) := by
  refine meets_of_vc (Y := {}) (N := 45) (rs := [.tmp 2, .tmp 3]) mix tk gd Tryz.func40 rfl (by kernel_rfl) rfl rfl (by simp) (by kernel_rfl) ?_
  have e1 : dP n = .val (.string ⟨(Lib.decDigits n).toArray⟩) := rfl
  rw [e1]
  simp (maxSteps := 10000000) only [↓sx, sx, ↓ty, ↓reduceIte, Nat.reduceEqDiff, Nat.reduceBeqDiff, Nat.reduceAdd, Nat.reduceLeDiff, Nat.reduceLT, Nat.reduceMul, Nat.reduceSub, Int.reduceEq, Int.reduceBNe, Int.reduceBEq, ne_eq, not_false_eq_true, pc, ls, bs, and_true, true_and, and_self, Nat.reduceAdd, Nat.le_refl, leafP]
  refine CallT.mk (t := ⟨⟩) (nvalid_d n (by omega)) ?_
  simp (maxSteps := 10000000) only [↓sx, sx, ↓ty, ↓reduceIte, Nat.reduceEqDiff, Nat.reduceBeqDiff, Nat.reduceAdd, Nat.reduceLeDiff, Nat.reduceLT, Nat.reduceMul, Nat.reduceSub, Int.reduceEq, Int.reduceBNe, Int.reduceBEq, ne_eq, not_false_eq_true, pc, ls, bs, and_true, true_and, and_self, Nat.reduceAdd, Nat.le_refl, leafP]
  refine CallT.mk (t := ⟨⟩) (nread_d n (by omega)) ?_
  rw [show nP n = .sl (Lw n) ((wl n).map wv) from rfl]
  by_cases h0 : n = 0
  · subst h0
    have : r = 0 := hr.uniq ⟨by omega, by omega⟩
    subst this
    have d0 : ((Lw 0 : Nat) : Int) = 0 := by rw [Lw_zero]; rfl
    simp (maxSteps := 10000000) only [↓sx, sx, ↓ty, ↓reduceIte, Nat.reduceEqDiff, Nat.reduceBeqDiff, Nat.reduceAdd, Nat.reduceLeDiff, Nat.reduceLT, Nat.reduceMul, Nat.reduceSub, Int.reduceEq, Int.reduceBNe, Int.reduceBEq, ne_eq, not_false_eq_true, pc, ls, bs, and_true, true_and, and_self, Nat.reduceAdd, Nat.le_refl, leafP, d0, dec_0]
  · have d0 : ((Lw n : Int) == 0) = false := by
      rw [beq_eq_false_iff_ne]
      intro h
      exact h0 ((Lw_zero_iff n).1 (by omega))
    have hlen := dec_len n
    obtain ⟨L, hL⟩ : ∃ L, L = (Lib.decDigits n).length := ⟨_, rfl⟩
    rw [← hL] at hlen
    have w1 : IntKind.i64.wrap ((L : Int) + 1) = ((L + 1 : Nat) : Int) := by rw [i64_id] <;> omega
    have w2 : IntKind.i64.wrap (((L + 1 : Nat) : Int).tdiv 2) = (((L + 1) / 2 : Nat) : Int) := by rw [tdiv_pos (by omega), i64_id] <;> omega
    simp (maxSteps := 10000000) only [↓sx, sx, ↓ty, ↓reduceIte, Nat.reduceEqDiff, Nat.reduceBeqDiff, Nat.reduceAdd, Nat.reduceLeDiff, Nat.reduceLT, Nat.reduceMul, Nat.reduceSub, Int.reduceEq, Int.reduceBNe, Int.reduceBEq, ne_eq, not_false_eq_true, pc, ls, bs, and_true, true_and, and_self, Nat.reduceAdd, Nat.le_refl, leafP, d0, List.size_toArray, ← hL, w1, w2]
    have hc : (L + 1) / 2 < 400000 := by omega
    have hX : n < (10 ^ ((L + 1) / 2) + 1) * (10 ^ ((L + 1) / 2) + 1) := by
      have h1 := natOf_lt (Lib.decDigits n) (dec_isD n)
      rw [natOf_dec, ← hL] at h1
      have h2 : 10 ^ L ≤ 10 ^ ((L + 1) / 2) * 10 ^ ((L + 1) / 2) := by rw [← Nat.pow_add]; exact Nat.pow_le_pow_right (by omega) (by omega)
      have h3 : 10 ^ ((L + 1) / 2) * 10 ^ ((L + 1) / 2) ≤ (10 ^ ((L + 1) / 2) + 1) * (10 ^ ((L + 1) / 2) + 1) := Nat.mul_le_mul (by omega) (by omega)
      omega
    have hxL := Lw_ten ((L + 1) / 2)
    have hxp : 0 < 10 ^ ((L + 1) / 2) := Nat.pow_pos (by omega)
    have rd := nread_n (49 :: List.replicate ((L + 1) / 2) 48) (by
      intro c hc
      rcases List.mem_cons.1 hc with rfl | hc
      · decide
      · rw [(List.mem_replicate.1 hc).2]; decide) (by simp; omega)
    rw [natOf_ten] at rd
    generalize 10 ^ ((L + 1) / 2) = X at *
    refine CallT.mk (t := ⟨⟩) (repeat_n [48] ((L + 1) / 2) (by simp; omega) (by omega)) ?_
    rw [rep_zeros]
    simp (maxSteps := 10000000) only [↓sx, sx, ↓ty, ↓reduceIte, Nat.reduceEqDiff, Nat.reduceBeqDiff, Nat.reduceAdd, Nat.reduceLeDiff, Nat.reduceLT, Nat.reduceMul, Nat.reduceSub, Int.reduceEq, Int.reduceBNe, Int.reduceBEq, ne_eq, not_false_eq_true, pc, ls, bs, and_true, true_and, and_self, Nat.reduceAdd, Nat.le_refl, leafP, ba_app, List.cons_append, List.nil_append]
    refine ⟨by simp; omega, CallT.mk (t := ⟨⟩) rd ?_⟩
    simp (maxSteps := 10000000) only [↓sx, sx, ↓ty, ↓reduceIte, Nat.reduceEqDiff, Nat.reduceBeqDiff, Nat.reduceAdd, Nat.reduceLeDiff, Nat.reduceLT, Nat.reduceMul, Nat.reduceSub, Int.reduceEq, Int.reduceBNe, Int.reduceBEq, ne_eq, not_false_eq_true, pc, ls, bs, and_true, true_and, and_self, Nat.reduceAdd, Nat.le_refl, leafP]
    refine loopK_of (fun x : Nat => [(2, .p (.val (.string ⟨#[]⟩))), (4, .p (nP n)), (5, .p (nP x))]) (fun _ => []) (fun _ => []) (fun x => 0 < x ∧ Lw x < 100000 ∧ n < (x + 1) * (x + 1)) (fun x => x) X ⟨hxp, by omega, hX⟩ ?_ ?_
    · simp (maxSteps := 10000000) only [isE_nil, is_cons, bo_p, bo_box, bo_orow, bo_rowp, any_cons', all_cons', all_nil', Bool.true_or, Bool.or_true, ↓sx, sx, ↓reduceIte, Nat.reduceEqDiff, Nat.reduceBeqDiff]
      exact ⟨rfl, rfl⟩
    · rintro x ⟨hx0, hxl, hx⟩
      have hq : n / x ≤ n := Nat.div_le_self _ _
      have hql := Lw_mono hq
      have hal := Lw_add x (n / x)
      simp (maxSteps := 10000000) only [↓sx, sx, ↓ty, ↓reduceIte, Nat.reduceEqDiff, Nat.reduceBeqDiff, Nat.reduceAdd, Nat.reduceLeDiff, Nat.reduceLT, Nat.reduceMul, Nat.reduceSub, Int.reduceEq, Int.reduceBNe, Int.reduceBEq, ne_eq, not_false_eq_true, pc, ls, bs, and_true, true_and, and_self, Nat.reduceAdd, Nat.le_refl, leafP]
      refine CallT.mk (t := ⟨⟩) (ndivide_n gd n x (by omega) (by omega) hx0) ?_
      simp (maxSteps := 10000000) only [↓sx, sx, ↓ty, ↓reduceIte, Nat.reduceEqDiff, Nat.reduceBeqDiff, Nat.reduceAdd, Nat.reduceLeDiff, Nat.reduceLT, Nat.reduceMul, Nat.reduceSub, Int.reduceEq, Int.reduceBNe, Int.reduceBEq, ne_eq, not_false_eq_true, pc, ls, bs, and_true, true_and, and_self, Nat.reduceAdd, Nat.le_refl, leafP]
      refine CallT.mk (t := ⟨⟩) (nplus_n gd x (n / x) (by omega) (by omega)) ?_
      simp (maxSteps := 10000000) only [↓sx, sx, ↓ty, ↓reduceIte, Nat.reduceEqDiff, Nat.reduceBeqDiff, Nat.reduceAdd, Nat.reduceLeDiff, Nat.reduceLT, Nat.reduceMul, Nat.reduceSub, Int.reduceEq, Int.reduceBNe, Int.reduceBEq, ne_eq, not_false_eq_true, pc, ls, bs, and_true, true_and, and_self, Nat.reduceAdd, Nat.le_refl, leafP]
      refine CallT.mk (t := ⟨⟩) (nby_n gd (x + n / x) 2 (by omega) (by omega) (by omega)) ?_
      have hnl := Lw_mono (Nat.div_le_self (x + n / x) 2)
      simp (maxSteps := 10000000) only [↓sx, sx, ↓ty, ↓reduceIte, Nat.reduceEqDiff, Nat.reduceBeqDiff, Nat.reduceAdd, Nat.reduceLeDiff, Nat.reduceLT, Nat.reduceMul, Nat.reduceSub, Int.reduceEq, Int.reduceBNe, Int.reduceBEq, ne_eq, not_false_eq_true, pc, ls, bs, and_true, true_and, and_self, Nat.reduceAdd, Nat.le_refl, leafP]
      refine CallT.mk (t := ⟨⟩) (ncmp_n gd ((x + n / x) / 2) x (by omega) (by omega)) ?_
      by_cases hst : x ≤ (x + n / x) / 2
      · have d1 : decide (cmpI (((x + n / x) / 2 : Nat) : Int) (x : Int) ≥ 0) = true := by
          apply decide_eq_true
          unfold cmpI
          split
          · omega
          · split <;> omega
        obtain rfl : r = x := hr.uniq (newton_stop hx0 hx hst)
        simp (maxSteps := 10000000) only [↓sx, sx, ↓ty, ↓reduceIte, Nat.reduceEqDiff, Nat.reduceBeqDiff, Nat.reduceAdd, Nat.reduceLeDiff, Nat.reduceLT, Nat.reduceMul, Nat.reduceSub, Int.reduceEq, Int.reduceBNe, Int.reduceBEq, ne_eq, not_false_eq_true, pc, ls, bs, and_true, true_and, and_self, Nat.reduceAdd, Nat.le_refl, leafP, d1]
        refine CallT.mk (t := ⟨⟩) (text_n r (by omega)) ?_
        simp (maxSteps := 10000000) only [↓sx, sx, ↓ty, ↓reduceIte, Nat.reduceEqDiff, Nat.reduceBeqDiff, Nat.reduceAdd, Nat.reduceLeDiff, Nat.reduceLT, Nat.reduceMul, Nat.reduceSub, Int.reduceEq, Int.reduceBNe, Int.reduceBEq, ne_eq, not_false_eq_true, pc, ls, bs, and_true, true_and, and_self, Nat.reduceAdd, Nat.le_refl, leafP]
      · have d1 : decide (cmpI (((x + n / x) / 2 : Nat) : Int) (x : Int) ≥ 0) = false := by
          apply decide_eq_false
          unfold cmpI
          split
          · omega
          · split <;> omega
        simp (maxSteps := 10000000) only [↓sx, sx, ↓ty, ↓reduceIte, Nat.reduceEqDiff, Nat.reduceBeqDiff, Nat.reduceAdd, Nat.reduceLeDiff, Nat.reduceLT, Nat.reduceMul, Nat.reduceSub, Int.reduceEq, Int.reduceBNe, Int.reduceBEq, ne_eq, not_false_eq_true, pc, ls, bs, and_true, true_and, and_self, Nat.reduceAdd, Nat.le_refl, leafP, d1]
        refine NextK.mk ((x + n / x) / 2) (by omega) ⟨newton_pos (by omega) hx0, Nat.lt_of_le_of_lt (Lw_mono (Nat.le_of_not_le hst)) hxl, newton_ge hx0⟩ ?_
        simp (maxSteps := 10000000) only [isE_nil, is_cons, bo_p, bo_box, bo_orow, bo_rowp, any_cons', all_cons', all_nil', Bool.true_or, Bool.or_true, ↓sx, sx, ↓reduceIte, Nat.reduceEqDiff, Nat.reduceBeqDiff]
        try rfl
end Go.Proofs.YthhefojkkgjcfaaGreatDoor.S
namespace Gb
open Go Go.RowKit Go.Sx
theorem Lw_root {a o : Nat} (h : o * o ≤ a) : Lw o ≤ Lw a := by
  by_cases h0 : o = 0
  · subst h0; rw [Lw_zero]; omega
  · exact Lw_mono (Nat.le_trans (Nat.le_mul_of_pos_right o (by omega)) h)
end Gb
namespace Go.Proofs.YthhefojkkgjcfaaGreatDoor.S
open Go Go.Sx Go.RowKit Gb
variable {G : World → Prop} (hG : ∀ w w' : World, G w → Below w.heap.size w w' → G w')
include hG
end Go.Proofs.YthhefojkkgjcfaaGreatDoor.S
namespace Gb
open Go Go.RowKit Go.Sx
end Gb
namespace Go.Proofs.YthhefojkkgjcfaaGreatDoor.S
open Go Go.Sx Go.RowKit Gb
variable {G : World → Prop} (hG : ∀ w w' : World, G w → Below w.heap.size w w' → G w')
include hG
end Go.Proofs.YthhefojkkgjcfaaGreatDoor.S
namespace Go.Proofs.YthhefojkkgjcfaaGreatDoor.S
open Go Go.Sx Go.RowKit Gb Go.Shelf
end Go.Proofs.YthhefojkkgjcfaaGreatDoor.S
namespace Gb
open Go Go.RowKit Go.Sx
end Gb
namespace Go.Proofs.YthhefojkkgjcfaaGreatDoor.S
open Go Go.Sx Go.RowKit Gb Go.Shelf
end Go.Proofs.YthhefojkkgjcfaaGreatDoor.S
namespace Gb
open Go Go.RowKit Go.Sx
end Gb
namespace Go.Proofs.YthhefojkkgjcfaaGreatDoor.S
open Go Go.Sx Go.RowKit Gb Go.Shelf
end Go.Proofs.YthhefojkkgjcfaaGreatDoor.S
namespace Gb
open Go Go.RowKit Go.Sx
def rpartsP (l : List UInt8) : PV := if isRat l then .tup [siP (ratOf l).num, dP (ratOf l).den, iP 0] else .tup [strP [], strP [], iP 1]
theorem rcmp_zero {l : List UInt8} (h : isRat l = true) : rcmpP l [48] = .tup [iP (ratOf l).num.sign, iP 0] := by
  unfold rcmpP; rw [h, isRat_0, ratOf_0, show ratOf l - 0 = ratOf l by grind]; rfl
def strsP (L : List (List UInt8)) : List PV := L.map strP
theorem strs_get {A : List (List UInt8)} {i : Nat} (h : i < A.length) : (strsP A)[i]? = some (.val (.string ⟨(A.getD i []).toArray⟩)) := by
  unfold strsP; rw [List.getElem?_map, List.getD_eq_getElem?_getD, List.getElem?_eq_getElem h]; rfl
theorem getD_mem {A : List (List UInt8)} {i : Nat} (h : i < A.length) : A.getD i [] ∈ A := by
  rw [List.getD_eq_getElem?_getD, List.getElem?_eq_getElem h]; exact List.getElem_mem _
theorem take_all {A : List (List UInt8)} {i : Nat} {p : List UInt8 → Prop} (h : i < A.length) (h1 : ∀ x ∈ A.take i, p x) (h2 : p (A.getD i [])) : ∀ x ∈ A.take (i + 1), p x := by
  intro x hx
  rw [List.take_succ_eq_append_getElem h, show A[i] = A.getD i [] by rw [List.getD_eq_getElem?_getD, List.getElem?_eq_getElem h]; rfl] at hx
  rcases List.mem_append.1 hx with hx | hx
  · exact h1 x hx
  · obtain rfl := List.mem_singleton.1 hx; exact h2
def checkI (L U : List (List UInt8)) (n : Int) : Int := if (L ++ U).all isRat then (if U.any (fun x => decide (ratOf x < 0)) then 2 else if n < 1 ∨ n > 1000000000 then 2 else 0) else 1
end Gb
namespace Go.Proofs.YthhefojkkgjcfaaGreatDoor.S
open Go Go.Sx Go.RowKit Gb Go.Shelf
set_option maxRecDepth 100000 in
theorem parts_n (l : List UInt8) (hl : l.length < 90000) : Meets Tryz.prog Gd 39 [strP l] (rpartsP l) := by
  refine meets_of_vc (Y := {}) (N := 18) (rs := [.tmp 2, .tmp 3, .tmp 4]) mix tk gd Tryz.func39 rfl (by kernel_rfl) rfl rfl (by simp) (by kernel_rfl) ?_
  unfold rpartsP
  simp (maxSteps := 10000000) only [↓sx, sx, ↓ty, ↓reduceIte, Nat.reduceEqDiff, Nat.reduceBeqDiff, Nat.reduceAdd, Nat.reduceLeDiff, Nat.reduceLT, Nat.reduceMul, Nat.reduceSub, Int.reduceEq, Int.reduceBNe, Int.reduceBEq, ne_eq, not_false_eq_true, pc, ls, bs, and_true, true_and, and_self, Nat.reduceAdd, Nat.le_refl, leafP]
  refine CallT.mk (fread_n l (by omega)) ?_
  cases h : isRat l with
  | true =>
    rw [← fr_of h]
    simp (maxSteps := 10000000) only [↓sx, sx, ↓ty, ↓reduceIte, Nat.reduceEqDiff, Nat.reduceBeqDiff, Nat.reduceAdd, Nat.reduceLeDiff, Nat.reduceLT, Nat.reduceMul, Nat.reduceSub, Int.reduceEq, Int.reduceBNe, Int.reduceBEq, ne_eq, not_false_eq_true, pc, ls, bs, and_true, true_and, and_self, Nat.reduceAdd, Nat.le_refl, leafP, pd]
  | false =>
    simp (maxSteps := 10000000) only [↓sx, sx, ↓ty, ↓reduceIte, Nat.reduceEqDiff, Nat.reduceBeqDiff, Nat.reduceAdd, Nat.reduceLeDiff, Nat.reduceLT, Nat.reduceMul, Nat.reduceSub, Int.reduceEq, Int.reduceBNe, Int.reduceBEq, ne_eq, not_false_eq_true, pc, ls, bs, and_true, true_and, and_self, Nat.reduceAdd, Nat.le_refl, leafP]
set_option maxRecDepth 100000 in
theorem rsign_n (l : List UInt8) (hl : l.length < 90000) (h : isRat l = true) : Meets Tryz.prog Gd 76 [strP l] (iP (ratOf l).num.sign) := by
  refine meets_of_vc (Y := {}) (N := 11) (rs := [.tmp 2]) mix tk gd Tryz.func76 rfl (by kernel_rfl) rfl rfl (by simp) (by kernel_rfl) ?_
  simp (maxSteps := 10000000) only [↓sx, sx, ↓ty, ↓reduceIte, Nat.reduceEqDiff, Nat.reduceBeqDiff, Nat.reduceAdd, Nat.reduceLeDiff, Nat.reduceLT, Nat.reduceMul, Nat.reduceSub, Int.reduceEq, Int.reduceBNe, Int.reduceBEq, ne_eq, not_false_eq_true, pc, ls, bs, and_true, true_and, and_self, Nat.reduceAdd, Nat.le_refl, leafP]
  have hc := rcmp_n l [48] hl (by simp)
  rw [rcmp_zero h] at hc
  refine CallT.mk (t := ⟨⟩) hc ?_
  simp (maxSteps := 10000000) only [↓sx, sx, ↓ty, ↓reduceIte, Nat.reduceEqDiff, Nat.reduceBeqDiff, Nat.reduceAdd, Nat.reduceLeDiff, Nat.reduceLT, Nat.reduceMul, Nat.reduceSub, Int.reduceEq, Int.reduceBNe, Int.reduceBEq, ne_eq, not_false_eq_true, pc, ls, bs, and_true, true_and, and_self, Nat.reduceAdd, Nat.le_refl, leafP]
set_option maxRecDepth 100000 in
theorem check_fl (L U : List (List UInt8)) (n : Int) (hL : L.length < 100) (hU : 0 < U.length) (hU2 : U.length < 100) (hs : ∀ x ∈ L ++ U, x.length < 90000) : Meets Tryz.prog Gd 38 [.fl L.length (strsP L), .sl U.length (strsP U), iP n] (iP (checkI L U n)) := by
  refine meets_of_vc (Y := {}) (N := 39) (rs := [.tmp 6]) mix tk gd Tryz.func38 rfl (by kernel_rfl) rfl rfl (by simp) (by kernel_rfl) ?_
  simp (maxSteps := 10000000) only [↓sx, sx, ↓ty, ↓reduceIte, Nat.reduceEqDiff, Nat.reduceBeqDiff, Nat.reduceAdd, Nat.reduceLeDiff, Nat.reduceLT, Nat.reduceMul, Nat.reduceSub, Int.reduceEq, Int.reduceBNe, Int.reduceBEq, ne_eq, not_false_eq_true, pc, ls, bs, and_true, true_and, and_self, Nat.reduceAdd, Nat.le_refl, leafP]
  have hN : (strsP L ++ strsP U) = strsP (L ++ U) := by unfold strsP; rw [List.map_append]
  have hB : ∀ M : List (List UInt8), (strsP M).all valP = true := by intro M; unfold strsP; rw [List.all_map, List.all_eq_true]; intro x _; rfl
  refine ⟨⟨hU, by unfold strsP; simp, by unfold strsP; simp, hB L, hB U, by simp only [maxLen]; omega, by omega⟩, ?_⟩
  rw [hN]
  have hlen : L.length + U.length = (L ++ U).length := by simp
  rw [hlen]
  generalize hA : L ++ U = A at *
  refine loopK_of (fun i : Nat => [(1, .p (.sl U.length (strsP U))), (2, .p (iP n)), (13, .orow 13), (14, .p (.val (.int .i64 (A.length : Nat)))), (15, .p (.val (.int .i64 (i : Nat))))]) (fun _ => []) (fun _ => [(13, ⟨22, 1, A.length, strsP A, false⟩)]) (fun i => i ≤ A.length ∧ ∀ x ∈ A.take i, isRat x = true) (fun i => A.length - i) 0 ⟨Nat.zero_le _, by simp⟩ ?_ ?_
  · simp (maxSteps := 10000000) only [isE_nil, is_cons, bo_p, bo_box, bo_orow, bo_rowp, any_cons', all_cons', all_nil', Bool.true_or, Bool.or_true, ↓sx, sx, ↓reduceIte, Nat.reduceEqDiff, Nat.reduceBeqDiff]
    rfl
  · rintro i ⟨h1, h2⟩
    by_cases hi : i < A.length
    · have e1 : decide ((i : Int) < (A.length : Int)) = true := by simp; omega
      simp (maxSteps := 10000000) only [↓sx, sx, ↓ty, ↓reduceIte, Nat.reduceEqDiff, Nat.reduceBeqDiff, Nat.reduceAdd, Nat.reduceLeDiff, Nat.reduceLT, Nat.reduceMul, Nat.reduceSub, Int.reduceEq, Int.reduceBNe, Int.reduceBEq, ne_eq, not_false_eq_true, pc, ls, bs, and_true, true_and, and_self, Nat.reduceAdd, Nat.le_refl, leafP, e1]
      refine ⟨⟨by omega, hi⟩, ?_⟩
      rw [strs_get hi]
      simp (maxSteps := 10000000) only [↓sx, sx, ↓ty, ↓reduceIte, Nat.reduceEqDiff, Nat.reduceBeqDiff, Nat.reduceAdd, Nat.reduceLeDiff, Nat.reduceLT, Nat.reduceMul, Nat.reduceSub, Int.reduceEq, Int.reduceBNe, Int.reduceBEq, ne_eq, not_false_eq_true, pc, ls, bs, and_true, true_and, and_self, Nat.reduceAdd, Nat.le_refl, leafP]
      refine CallT.mk (t := ⟨⟩) (rvalid_n (A.getD i []) (by have := hs _ (getD_mem hi); omega)) ?_
      cases hv : isRat (A.getD i []) with
      | false =>
        have : checkI L U n = 1 := by
          unfold checkI; rw [if_neg]; rw [hA, List.all_eq_true]; intro h; have := h _ (getD_mem hi); rw [hv] at this; exact absurd this (by decide)
        rw [this]
        simp (maxSteps := 10000000) only [↓sx, sx, ↓ty, ↓reduceIte, Nat.reduceEqDiff, Nat.reduceBeqDiff, Nat.reduceAdd, Nat.reduceLeDiff, Nat.reduceLT, Nat.reduceMul, Nat.reduceSub, Int.reduceEq, Int.reduceBNe, Int.reduceBEq, ne_eq, not_false_eq_true, pc, ls, bs, and_true, true_and, and_self, Nat.reduceAdd, Nat.le_refl, leafP]
      | true =>
        simp (maxSteps := 10000000) only [↓sx, sx, ↓ty, ↓reduceIte, Nat.reduceEqDiff, Nat.reduceBeqDiff, Nat.reduceAdd, Nat.reduceLeDiff, Nat.reduceLT, Nat.reduceMul, Nat.reduceSub, Int.reduceEq, Int.reduceBNe, Int.reduceBEq, ne_eq, not_false_eq_true, pc, ls, bs, and_true, true_and, and_self, Nat.reduceAdd, Nat.le_refl, leafP]
        refine NextK.mk (i + 1) (by omega) ⟨by omega, take_all hi h2 hv⟩ ?_
        simp (maxSteps := 10000000) only [isE_nil, is_cons, bo_p, bo_box, bo_orow, bo_rowp, any_cons', all_cons', all_nil', Bool.true_or, Bool.or_true, ↓sx, sx, ↓reduceIte, Nat.reduceEqDiff, Nat.reduceBeqDiff]
        rw [i64_id (by omega) (by omega)]
        rfl
    · have e1 : decide ((i : Int) < (A.length : Int)) = false := by simp; omega
      simp (maxSteps := 10000000) only [↓sx, sx, ↓ty, ↓reduceIte, Nat.reduceEqDiff, Nat.reduceBeqDiff, Nat.reduceAdd, Nat.reduceLeDiff, Nat.reduceLT, Nat.reduceMul, Nat.reduceSub, Int.reduceEq, Int.reduceBNe, Int.reduceBEq, ne_eq, not_false_eq_true, pc, ls, bs, and_true, true_and, and_self, Nat.reduceAdd, Nat.le_refl, leafP, e1]
      have hall : ∀ x ∈ A, isRat x = true := by rw [List.take_of_length_le (by omega)] at h2; exact h2
      have hUA : ∀ x ∈ U, x ∈ A := fun x hx => hA ▸ List.mem_append_right L hx
      refine loopK_of (fun j : Nat => [(2, .p (iP n)), (23, .p (.sl U.length (strsP U))), (24, .p (.val (.int .i64 (U.length : Nat)))), (25, .p (.val (.int .i64 (j : Nat))))]) (fun _ => []) (fun _ => [(13, ⟨22, 1, A.length, strsP A, false⟩)]) (fun j => j ≤ U.length ∧ ∀ x ∈ U.take j, ¬ ratOf x < 0) (fun j => U.length - j) 0 ⟨Nat.zero_le _, by simp⟩ ?_ ?_
      · simp (maxSteps := 10000000) only [isE_nil, is_cons, bo_p, bo_box, bo_orow, bo_rowp, any_cons', all_cons', all_nil', Bool.true_or, Bool.or_true, ↓sx, sx, ↓reduceIte, Nat.reduceEqDiff, Nat.reduceBeqDiff]
        rfl
      · rintro j ⟨g1, g2⟩
        by_cases hj : j < U.length
        · have e2 : decide ((j : Int) < (U.length : Int)) = true := by simp; omega
          simp (maxSteps := 10000000) only [↓sx, sx, ↓ty, ↓reduceIte, Nat.reduceEqDiff, Nat.reduceBeqDiff, Nat.reduceAdd, Nat.reduceLeDiff, Nat.reduceLT, Nat.reduceMul, Nat.reduceSub, Int.reduceEq, Int.reduceBNe, Int.reduceBEq, ne_eq, not_false_eq_true, pc, ls, bs, and_true, true_and, and_self, Nat.reduceAdd, Nat.le_refl, leafP, e2]
          refine ⟨⟨by omega, hj, by unfold strsP; simp; omega⟩, ?_⟩
          rw [strs_get hj]
          simp (maxSteps := 10000000) only [↓sx, sx, ↓ty, ↓reduceIte, Nat.reduceEqDiff, Nat.reduceBeqDiff, Nat.reduceAdd, Nat.reduceLeDiff, Nat.reduceLT, Nat.reduceMul, Nat.reduceSub, Int.reduceEq, Int.reduceBNe, Int.reduceBEq, ne_eq, not_false_eq_true, pc, ls, bs, and_true, true_and, and_self, Nat.reduceAdd, Nat.le_refl, leafP]
          have hr := hall _ (hUA _ (getD_mem hj))
          refine CallT.mk (t := ⟨⟩) (rsign_n (U.getD j []) (by have := hs _ (hUA _ (getD_mem hj)); omega) hr) ?_
          simp (maxSteps := 10000000) only [↓sx, sx, ↓ty, ↓reduceIte, Nat.reduceEqDiff, Nat.reduceBeqDiff, Nat.reduceAdd, Nat.reduceLeDiff, Nat.reduceLT, Nat.reduceMul, Nat.reduceSub, Int.reduceEq, Int.reduceBNe, Int.reduceBEq, ne_eq, not_false_eq_true, pc, ls, bs, and_true, true_and, and_self, Nat.reduceAdd, Nat.le_refl, leafP]
          refine vcIf_dec (fun hn => ?_) (fun hn => ?_)
          · have : checkI L U n = 2 := by
              unfold checkI
              rw [hA, if_pos (List.all_eq_true.2 hall), if_pos]
              rw [List.any_eq_true]
              exact ⟨_, getD_mem hj, by simpa using (sign_lt0 _).1 hn⟩
            rw [this]
          · refine NextK.mk (j + 1) (by omega) ⟨by omega, take_all (p := fun x => ¬ ratOf x < 0) hj g2 fun h => hn ((sign_lt0 _).2 h)⟩ ?_
            simp (maxSteps := 10000000) only [isE_nil, is_cons, bo_p, bo_box, bo_orow, bo_rowp, any_cons', all_cons', all_nil', Bool.true_or, Bool.or_true, ↓sx, sx, ↓reduceIte, Nat.reduceEqDiff, Nat.reduceBeqDiff]
            rw [i64_id (by omega) (by omega)]
            rfl
        · have e2 : decide ((j : Int) < (U.length : Int)) = false := by simp; omega
          simp (maxSteps := 10000000) only [↓sx, sx, ↓ty, ↓reduceIte, Nat.reduceEqDiff, Nat.reduceBeqDiff, Nat.reduceAdd, Nat.reduceLeDiff, Nat.reduceLT, Nat.reduceMul, Nat.reduceSub, Int.reduceEq, Int.reduceBNe, Int.reduceBEq, ne_eq, not_false_eq_true, pc, ls, bs, and_true, true_and, and_self, Nat.reduceAdd, Nat.le_refl, leafP, e2]
          have hno : ∀ x ∈ U, ¬ ratOf x < 0 := by rw [List.take_of_length_le (by omega)] at g2; exact g2
          have hI : checkI L U n = if n < 1 ∨ n > 1000000000 then 2 else 0 := by
            unfold checkI
            rw [hA, if_pos (List.all_eq_true.2 hall), if_neg]
            rw [List.any_eq_true]
            rintro ⟨x, hx, hx2⟩
            exact hno x hx (by simpa using hx2)
          rw [hI]
          refine vcIf_dec (fun hn => ?_) (fun hn => ?_)
          · rw [if_pos (.inl hn)]
          · refine vcIf_dec (fun hn2 => ?_) (fun hn2 => ?_)
            · rw [if_pos (.inr hn2)]
            · rw [if_neg (by omega)]
set_option maxRecDepth 100000 in
theorem check_sl (L U : List (List UInt8)) (n : Int) (hL : L.length < 100) (hU : U = []) (hs : ∀ x ∈ L, x.length < 90000) : Meets Tryz.prog Gd 38 [.sl L.length (strsP L), .sl 0 [], iP n] (iP (checkI L U n)) := by
  refine meets_of_vc (Y := {}) (N := 39) (rs := [.tmp 6]) mix tk gd Tryz.func38 rfl (by kernel_rfl) rfl rfl (by simp) (by kernel_rfl) ?_
  simp (maxSteps := 10000000) only [↓sx, sx, ↓ty, ↓reduceIte, Nat.reduceEqDiff, Nat.reduceBeqDiff, Nat.reduceAdd, Nat.reduceLeDiff, Nat.reduceLT, Nat.reduceMul, Nat.reduceSub, Int.reduceEq, Int.reduceBNe, Int.reduceBEq, ne_eq, not_false_eq_true, pc, ls, bs, and_true, true_and, and_self, Nat.reduceAdd, Nat.le_refl, leafP]
  have hA : L ++ U = L := by rw [hU, List.append_nil]
  have hU2 : U.length = 0 := by rw [hU]; rfl
  refine loopK_of (fun i : Nat => [(1, .p (.sl 0 [])), (2, .p (iP n)), (13, .p (.sl L.length (strsP L))), (14, .p (.val (.int .i64 (L.length : Nat)))), (15, .p (.val (.int .i64 (i : Nat))))]) (fun _ => []) (fun _ => []) (fun i => i ≤ L.length ∧ ∀ x ∈ L.take i, isRat x = true) (fun i => L.length - i) 0 ⟨Nat.zero_le _, by simp⟩ ?_ ?_
  · simp (maxSteps := 10000000) only [isE_nil, is_cons, bo_p, bo_box, bo_orow, bo_rowp, any_cons', all_cons', all_nil', Bool.true_or, Bool.or_true, ↓sx, sx, ↓reduceIte, Nat.reduceEqDiff, Nat.reduceBeqDiff]
    rfl
  · rintro i ⟨h1, h2⟩
    by_cases hi : i < L.length
    · have e1 : decide ((i : Int) < (L.length : Int)) = true := by simp; omega
      simp (maxSteps := 10000000) only [↓sx, sx, ↓ty, ↓reduceIte, Nat.reduceEqDiff, Nat.reduceBeqDiff, Nat.reduceAdd, Nat.reduceLeDiff, Nat.reduceLT, Nat.reduceMul, Nat.reduceSub, Int.reduceEq, Int.reduceBNe, Int.reduceBEq, ne_eq, not_false_eq_true, pc, ls, bs, and_true, true_and, and_self, Nat.reduceAdd, Nat.le_refl, leafP, e1]
      refine ⟨⟨by omega, hi, by unfold strsP; simp; omega⟩, ?_⟩
      rw [strs_get hi]
      simp (maxSteps := 10000000) only [↓sx, sx, ↓ty, ↓reduceIte, Nat.reduceEqDiff, Nat.reduceBeqDiff, Nat.reduceAdd, Nat.reduceLeDiff, Nat.reduceLT, Nat.reduceMul, Nat.reduceSub, Int.reduceEq, Int.reduceBNe, Int.reduceBEq, ne_eq, not_false_eq_true, pc, ls, bs, and_true, true_and, and_self, Nat.reduceAdd, Nat.le_refl, leafP]
      refine CallT.mk (t := ⟨⟩) (rvalid_n (L.getD i []) (by have := hs _ (getD_mem hi); omega)) ?_
      cases hv : isRat (L.getD i []) with
      | false =>
        have : checkI L U n = 1 := by
          unfold checkI; rw [if_neg]; rw [hA, List.all_eq_true]; intro h; have := h _ (getD_mem hi); rw [hv] at this; exact absurd this (by decide)
        rw [this]
        simp (maxSteps := 10000000) only [↓sx, sx, ↓ty, ↓reduceIte, Nat.reduceEqDiff, Nat.reduceBeqDiff, Nat.reduceAdd, Nat.reduceLeDiff, Nat.reduceLT, Nat.reduceMul, Nat.reduceSub, Int.reduceEq, Int.reduceBNe, Int.reduceBEq, ne_eq, not_false_eq_true, pc, ls, bs, and_true, true_and, and_self, Nat.reduceAdd, Nat.le_refl, leafP]
      | true =>
        simp (maxSteps := 10000000) only [↓sx, sx, ↓ty, ↓reduceIte, Nat.reduceEqDiff, Nat.reduceBeqDiff, Nat.reduceAdd, Nat.reduceLeDiff, Nat.reduceLT, Nat.reduceMul, Nat.reduceSub, Int.reduceEq, Int.reduceBNe, Int.reduceBEq, ne_eq, not_false_eq_true, pc, ls, bs, and_true, true_and, and_self, Nat.reduceAdd, Nat.le_refl, leafP]
        refine NextK.mk (i + 1) (by omega) ⟨by omega, take_all hi h2 hv⟩ ?_
        simp (maxSteps := 10000000) only [isE_nil, is_cons, bo_p, bo_box, bo_orow, bo_rowp, any_cons', all_cons', all_nil', Bool.true_or, Bool.or_true, ↓sx, sx, ↓reduceIte, Nat.reduceEqDiff, Nat.reduceBeqDiff]
        rw [i64_id (by omega) (by omega)]
        rfl
    · have e1 : decide ((i : Int) < (L.length : Int)) = false := by simp; omega
      simp (maxSteps := 10000000) only [↓sx, sx, ↓ty, ↓reduceIte, Nat.reduceEqDiff, Nat.reduceBeqDiff, Nat.reduceAdd, Nat.reduceLeDiff, Nat.reduceLT, Nat.reduceMul, Nat.reduceSub, Int.reduceEq, Int.reduceBNe, Int.reduceBEq, ne_eq, not_false_eq_true, pc, ls, bs, and_true, true_and, and_self, Nat.reduceAdd, Nat.le_refl, leafP, e1]
      have hall : ∀ x ∈ L, isRat x = true := by rw [List.take_of_length_le (by omega)] at h2; exact h2
      have hUA : ∀ x ∈ U, x ∈ L := fun x hx => hA ▸ List.mem_append_right L hx
      refine loopK_of (fun j : Nat => [(2, .p (iP n)), (23, .p (.sl 0 [])), (24, .p (.val (.int .i64 0))), (25, .p (.val (.int .i64 (j : Nat))))]) (fun _ => []) (fun _ => []) (fun j => j ≤ U.length ∧ ∀ x ∈ U.take j, ¬ ratOf x < 0) (fun j => U.length - j) 0 ⟨Nat.zero_le _, by simp⟩ ?_ ?_
      · simp (maxSteps := 10000000) only [isE_nil, is_cons, bo_p, bo_box, bo_orow, bo_rowp, any_cons', all_cons', all_nil', Bool.true_or, Bool.or_true, ↓sx, sx, ↓reduceIte, Nat.reduceEqDiff, Nat.reduceBeqDiff]
        exact ⟨rfl, rfl⟩
      · rintro j ⟨g1, g2⟩
        by_cases hj : j < U.length
        · omega
        · have e2 : decide ((j : Int) < 0) = false := by simp
          simp (maxSteps := 10000000) only [↓sx, sx, ↓ty, ↓reduceIte, Nat.reduceEqDiff, Nat.reduceBeqDiff, Nat.reduceAdd, Nat.reduceLeDiff, Nat.reduceLT, Nat.reduceMul, Nat.reduceSub, Int.reduceEq, Int.reduceBNe, Int.reduceBEq, ne_eq, not_false_eq_true, pc, ls, bs, and_true, true_and, and_self, Nat.reduceAdd, Nat.le_refl, leafP, e2]
          have hno : ∀ x ∈ U, ¬ ratOf x < 0 := by rw [List.take_of_length_le (by omega)] at g2; exact g2
          have hI : checkI L U n = if n < 1 ∨ n > 1000000000 then 2 else 0 := by
            unfold checkI
            rw [hA, if_pos (List.all_eq_true.2 hall), if_neg]
            rw [List.any_eq_true]
            rintro ⟨x, hx, hx2⟩
            exact hno x hx (by simpa using hx2)
          rw [hI]
          refine vcIf_dec (fun hn => ?_) (fun hn => ?_)
          · rw [if_pos (.inl hn)]
          · refine vcIf_dec (fun hn2 => ?_) (fun hn2 => ?_)
            · rw [if_pos (.inr hn2)]
            · rw [if_neg (by omega)]
end Go.Proofs.YthhefojkkgjcfaaGreatDoor.S
namespace Gb
open Go Go.RowKit Go.Sx
def sumI (s : Int) (x : Rat) (t : Int) (y : Rat) : Int :=
  if s < 0 then (if t < 0 then -1 else if t = 0 then -1 else -(x - y).num.sign) else if s = 0 then (if t < 0 then -1 else if t = 0 then 0 else 1) else (if t < 0 then (x - y).num.sign else 1)
end Gb
namespace Go.Proofs.YthhefojkkgjcfaaGreatDoor.S
open Go Go.Sx Go.RowKit Gb Go.Shelf
theorem rmake_q (k n : Int) (hk : Lw k.natAbs < 5000) (hn : Lw n.natAbs < 5000) (h0 : n ≠ 0) : Meets Tryz.prog Gd 42 [siP k, siP n] (.tup [rtP (Rat.divInt k n), iP 0]) := by
  have := rmake_n (iD k) (iD n) (by have := iD_len k; omega) (by have := iD_len n; omega)
  unfold rmakeP at this
  rw [isInt_iD, isInt_iD, intOf_iD, intOf_iD, if_neg h0] at this
  exact this
theorem rsign_q (x : Rat) (hx : Sz 4000 x) : Meets Tryz.prog Gd 76 [rtP x] (iP x.num.sign) := by
  have := rsign_n (rT x) (by have := rT_len hx; omega) (isRat_rT x)
  rw [ratOf_rT] at this
  exact this
set_option maxRecDepth 100000 in
theorem over_q (k n : Int) (hk : Lw k.natAbs < 5000) (h1 : 1 ≤ n) (h2 : n ≤ 1000000000) : Meets Tryz.prog Gd 115 [siP k, iP n] (rtP (Rat.divInt k n)) := by
  refine meets_of_vc (Y := {}) (N := 15) (rs := [.tmp 4]) mix tk gd Tryz.func115 rfl (by kernel_rfl) rfl rfl (by simp) (by kernel_rfl) ?_
  simp (maxSteps := 10000000) only [↓sx, sx, ↓ty, ↓reduceIte, Nat.reduceEqDiff, Nat.reduceBeqDiff, Nat.reduceAdd, Nat.reduceLeDiff, Nat.reduceLT, Nat.reduceMul, Nat.reduceSub, Int.reduceEq, Int.reduceBNe, Int.reduceBEq, ne_eq, not_false_eq_true, pc, ls, bs, and_true, true_and, and_self, Nat.reduceAdd, Nat.le_refl, leafP]
  refine CallT.mk (t := ⟨⟩) (itoa_n n (by omega) (by omega)) ?_
  simp (maxSteps := 10000000) only [↓sx, sx, ↓ty, ↓reduceIte, Nat.reduceEqDiff, Nat.reduceBeqDiff, Nat.reduceAdd, Nat.reduceLeDiff, Nat.reduceLT, Nat.reduceMul, Nat.reduceSub, Int.reduceEq, Int.reduceBNe, Int.reduceBEq, ne_eq, not_false_eq_true, pc, ls, bs, and_true, true_and, and_self, Nat.reduceAdd, Nat.le_refl, leafP]
  have := Lw_le (n := n.natAbs) (k := 2) (by omega)
  refine CallT.mk (t := ⟨⟩) (rmake_q k n hk (by omega) (by omega)) ?_
  simp (maxSteps := 10000000) only [↓sx, sx, ↓ty, ↓reduceIte, Nat.reduceEqDiff, Nat.reduceBeqDiff, Nat.reduceAdd, Nat.reduceLeDiff, Nat.reduceLT, Nat.reduceMul, Nat.reduceSub, Int.reduceEq, Int.reduceBNe, Int.reduceBEq, ne_eq, not_false_eq_true, pc, ls, bs, and_true, true_and, and_self, Nat.reduceAdd, Nat.le_refl, leafP]
set_option maxRecDepth 100000 in
theorem part_q (a c : Rat) (ha : Sz 400 a) (hc : Sz 400 c) : Meets Tryz.prog Gd 56 [rtP a, rtP c] (.tup [iP (a.num.sign * c.num.sign), rtP (a * a * c)]) := by
  refine meets_of_vc (Y := {}) (N := 26) (rs := [.tmp 4, .tmp 5]) mix tk gd Tryz.func56 rfl (by kernel_rfl) rfl rfl (by simp) (by kernel_rfl) ?_
  have saa := ha.mul ha
  simp (maxSteps := 10000000) only [↓sx, sx, ↓ty, ↓reduceIte, Nat.reduceEqDiff, Nat.reduceBeqDiff, Nat.reduceAdd, Nat.reduceLeDiff, Nat.reduceLT, Nat.reduceMul, Nat.reduceSub, Int.reduceEq, Int.reduceBNe, Int.reduceBEq, ne_eq, not_false_eq_true, pc, ls, bs, and_true, true_and, and_self, Nat.reduceAdd, Nat.le_refl, leafP]
  refine CallT.mk (t := ⟨⟩) (rop_q rmul_n a a (ha.mono (by omega)) (ha.mono (by omega))) ?_
  simp (maxSteps := 10000000) only [↓sx, sx, ↓ty, ↓reduceIte, Nat.reduceEqDiff, Nat.reduceBeqDiff, Nat.reduceAdd, Nat.reduceLeDiff, Nat.reduceLT, Nat.reduceMul, Nat.reduceSub, Int.reduceEq, Int.reduceBNe, Int.reduceBEq, ne_eq, not_false_eq_true, pc, ls, bs, and_true, true_and, and_self, Nat.reduceAdd, Nat.le_refl, leafP]
  refine CallT.mk (t := ⟨⟩) (rop_q rmul_n (a * a) c (saa.mono (by omega)) (hc.mono (by omega))) ?_
  simp (maxSteps := 10000000) only [↓sx, sx, ↓ty, ↓reduceIte, Nat.reduceEqDiff, Nat.reduceBeqDiff, Nat.reduceAdd, Nat.reduceLeDiff, Nat.reduceLT, Nat.reduceMul, Nat.reduceSub, Int.reduceEq, Int.reduceBNe, Int.reduceBEq, ne_eq, not_false_eq_true, pc, ls, bs, and_true, true_and, and_self, Nat.reduceAdd, Nat.le_refl, leafP]
  refine CallT.mk (t := ⟨⟩) (rsign_q a (ha.mono (by omega))) ?_
  simp (maxSteps := 10000000) only [↓sx, sx, ↓ty, ↓reduceIte, Nat.reduceEqDiff, Nat.reduceBeqDiff, Nat.reduceAdd, Nat.reduceLeDiff, Nat.reduceLT, Nat.reduceMul, Nat.reduceSub, Int.reduceEq, Int.reduceBNe, Int.reduceBEq, ne_eq, not_false_eq_true, pc, ls, bs, and_true, true_and, and_self, Nat.reduceAdd, Nat.le_refl, leafP]
  refine CallT.mk (t := ⟨⟩) (rsign_q c (hc.mono (by omega))) ?_
  simp (maxSteps := 10000000) only [↓sx, sx, ↓ty, ↓reduceIte, Nat.reduceEqDiff, Nat.reduceBeqDiff, Nat.reduceAdd, Nat.reduceLeDiff, Nat.reduceLT, Nat.reduceMul, Nat.reduceSub, Int.reduceEq, Int.reduceBNe, Int.reduceBEq, ne_eq, not_false_eq_true, pc, ls, bs, and_true, true_and, and_self, Nat.reduceAdd, Nat.le_refl, leafP]
  have b1 := Int.sign_trichotomy a.num
  have b2 := Int.sign_trichotomy c.num
  have : IntKind.i64.wrap (a.num.sign * c.num.sign) = a.num.sign * c.num.sign := by
    rcases b1 with h | h | h <;> rcases b2 with h' | h' | h' <;> rw [h, h'] <;> decide
  rw [this]
set_option maxRecDepth 100000 in
set_option maxHeartbeats 4000000 in
theorem sum_q (s t : Int) (x y : Rat) (hs : s = -1 ∨ s = 0 ∨ s = 1) (ht : t = -1 ∨ t = 0 ∨ t = 1) (hx : Sz 4000 x) (hy : Sz 4000 y) : Meets Tryz.prog Gd 57 [iP s, rtP x, iP t, rtP y] (iP (sumI s x t y)) := by
  refine meets_of_vc (Y := {}) (N := 32) (rs := [.tmp 8]) mix tk gd Tryz.func57 rfl (by kernel_rfl) rfl rfl (by simp) (by kernel_rfl) ?_
  simp (maxSteps := 10000000) only [↓sx, sx, ↓ty, ↓reduceIte, Nat.reduceEqDiff, Nat.reduceBeqDiff, Nat.reduceAdd, Nat.reduceLeDiff, Nat.reduceLT, Nat.reduceMul, Nat.reduceSub, Int.reduceEq, Int.reduceBNe, Int.reduceBEq, ne_eq, not_false_eq_true, pc, ls, bs, and_true, true_and, and_self, Nat.reduceAdd, Nat.le_refl, leafP]
  refine CallT.mk (t := ⟨⟩) (rcmp_q x y hx hy) ?_
  have w0 : IntKind.i64.wrap (-1 + 1) = 0 := by decide
  have w1 : IntKind.i64.wrap (0 + 1) = 1 := by decide
  have w2 : IntKind.i64.wrap (1 + 1) = 2 := by decide
  have w3 : IntKind.i64.wrap (0 - (x - y).num.sign) = -(x - y).num.sign := by
    have := Int.sign_trichotomy (x - y).num
    rw [i64_id] <;> omega
  have t1 : Int.toNat 1 = 1 := rfl
  have t2 : Int.toNat 2 = 2 := rfl
  unfold sumI
  rcases hs with rfl | rfl | rfl <;> rcases ht with rfl | rfl | rfl <;> simp (maxSteps := 10000000) only [↓sx, sx, ↓ty, ↓reduceIte, Nat.reduceEqDiff, Nat.reduceBeqDiff, Nat.reduceAdd, Nat.reduceLeDiff, Nat.reduceLT, Nat.reduceMul, Nat.reduceSub, Int.reduceEq, Int.reduceBNe, Int.reduceBEq, ne_eq, not_false_eq_true, pc, ls, bs, and_true, true_and, and_self, Nat.reduceAdd, Nat.le_refl, leafP, w0, w1, w2, w3, t1, t2] <;> (refine ⟨by decide, by decide, ?_⟩; simp)
end Go.Proofs.YthhefojkkgjcfaaGreatDoor.S
namespace Gb
open Go Go.RowKit Go.Sx
noncomputable def exactP (l : List UInt8) : PV :=
  if isRat l then (if ratOf l < 0 then .tup [strP [], .val (.bool false), iP 2] else
    if rt (ratOf l).num.natAbs * rt (ratOf l).num.natAbs = (ratOf l).num.natAbs ∧ rt (ratOf l).den * rt (ratOf l).den = (ratOf l).den then
      .tup [rtP (Rat.divInt (rt (ratOf l).num.natAbs) (rt (ratOf l).den)), .val (.bool true), iP 0]
    else .tup [strP [], .val (.bool false), iP 0]) else .tup [strP [], .val (.bool false), iP 1]
def gx (i k n : Nat) : PV := if k < i then dP n else strP []
theorem dec_beq (a b : Nat) : (Lib.decDigits a == Lib.decDigits b) = decide (a = b) := by
  by_cases h : a = b
  · subst h; simp
  · rw [decide_eq_false h, beq_eq_false_iff_ne]
    intro e
    refine h ?_
    have := congrArg natOf e
    rwa [natOf_dec, natOf_dec] at this
theorem vcIf_not {b : Bool} {A B : Prop} (h1 : b = true → B) (h0 : b = false → A) : vcIf (!b) A B := by
  cases b
  · exact h0 rfl
  · exact h1 rfl
theorem check_one (l : List UInt8) : checkI [] [l] 1 = if isRat l then (if ratOf l < 0 then 2 else 0) else 1 := by
  unfold checkI; simp
end Gb
namespace Go.Proofs.YthhefojkkgjcfaaGreatDoor.S
open Go Go.Sx Go.RowKit Gb Go.Shelf
set_option maxRecDepth 100000 in
set_option maxHeartbeats 4000000 in
theorem xexact_n (l : List UInt8) (hl : l.length < 36000) : Meets Tryz.prog Gd 12 [strP l] (exactP l) := by
  refine meets_of_vc (Y := { bw := [1], fl := [42] }) (N := 65) (rs := [.tmp 2, .tmp 3, .tmp 4]) mix tk gd Tryz.func12 rfl (by kernel_rfl) rfl rfl (by simp) (by kernel_rfl) ?_
  have hc := check_fl [] [l] 1 (by simp) (by simp) (by simp) (by simpa using by omega)
  rw [check_one] at hc
  unfold exactP
  simp (maxSteps := 10000000) only [↓sx, sx, ↓ty, ↓reduceIte, Nat.reduceEqDiff, Nat.reduceBeqDiff, Nat.reduceAdd, Nat.reduceLeDiff, Nat.reduceLT, Nat.reduceMul, Nat.reduceSub, Int.reduceEq, Int.reduceBNe, Int.reduceBEq, ne_eq, not_false_eq_true, pc, ls, bs, and_true, true_and, and_self, Nat.reduceAdd, Nat.le_refl, leafP]
  refine CallT.mk (t := ⟨⟩) hc ?_
  cases h : isRat l with
  | false =>
    simp only [Bool.false_eq_true, if_false]
    simp (maxSteps := 10000000) only [↓sx, sx, ↓ty, ↓reduceIte, Nat.reduceEqDiff, Nat.reduceBeqDiff, Nat.reduceAdd, Nat.reduceLeDiff, Nat.reduceLT, Nat.reduceMul, Nat.reduceSub, Int.reduceEq, Int.reduceBNe, Int.reduceBEq, ne_eq, not_false_eq_true, pc, ls, bs, and_true, true_and, and_self, Nat.reduceAdd, Nat.le_refl, leafP]
  | true =>
    rw [if_pos rfl, if_pos rfl]
    by_cases h0 : ratOf l < 0
    · rw [if_pos h0, if_pos h0]
      simp (maxSteps := 10000000) only [↓sx, sx, ↓ty, ↓reduceIte, Nat.reduceEqDiff, Nat.reduceBeqDiff, Nat.reduceAdd, Nat.reduceLeDiff, Nat.reduceLT, Nat.reduceMul, Nat.reduceSub, Int.reduceEq, Int.reduceBNe, Int.reduceBEq, ne_eq, not_false_eq_true, pc, ls, bs, and_true, true_and, and_self, Nat.reduceAdd, Nat.le_refl, leafP]
    · simp only [if_neg h0]
      simp (maxSteps := 10000000) only [↓sx, sx, ↓ty, ↓reduceIte, Nat.reduceEqDiff, Nat.reduceBeqDiff, Nat.reduceAdd, Nat.reduceLeDiff, Nat.reduceLT, Nat.reduceMul, Nat.reduceSub, Int.reduceEq, Int.reduceBNe, Int.reduceBEq, ne_eq, not_false_eq_true, pc, ls, bs, and_true, true_and, and_self, Nat.reduceAdd, Nat.le_refl, leafP]
      have hp := parts_n l (by omega)
      unfold rpartsP at hp
      obtain ⟨p, hpn⟩ : ∃ p : Nat, (ratOf l).num = (p : Int) := ⟨(ratOf l).num.toNat, by have := Rat.num_nonneg.2 (Rat.not_lt.1 h0); omega⟩
      have sz : Sz 4002 (ratOf l) := Sz.of h (by omega)
      have lp : Lw p < 4003 := by have := sz.1; rw [hpn] at this; simpa using Nat.lt_of_le_of_lt this (by omega)
      have lq : Lw (ratOf l).den < 4003 := by have := sz.2; omega
      have q0 := (ratOf l).den_nz
      rw [h, if_pos rfl, hpn, siP_nat] at hp
      rw [hpn, Int.natAbs_natCast]
      generalize (ratOf l).den = q at *
      have rp := rt_spec p
      have rq := rt_spec q
      generalize rt p = u at *
      generalize rt q = v at *
      refine CallT.mk (t := ⟨⟩) hp ?_
      simp (maxSteps := 10000000) only [↓sx, sx, ↓ty, ↓reduceIte, Nat.reduceEqDiff, Nat.reduceBeqDiff, Nat.reduceAdd, Nat.reduceLeDiff, Nat.reduceLT, Nat.reduceMul, Nat.reduceSub, Int.reduceEq, Int.reduceBNe, Int.reduceBEq, ne_eq, not_false_eq_true, pc, ls, bs, and_true, true_and, and_self, Nat.reduceAdd, Nat.le_refl, leafP]
      refine loopK_of (fun i : Nat => [(9, .box 9 0), (30, .p (.agg [dP p, dP q])), (31, .p (.val (.int .i64 (i : Nat))))]) (fun i => [(9, (61, [gx i 0 u, gx i 1 v]))]) (fun _ => []) (fun i => i ≤ 2 ∧ (1 ≤ i → u * u = p) ∧ (2 ≤ i → v * v = q)) (fun i => 2 - i) 0 ⟨by omega, by omega, by omega⟩ ?_ ?_
      · simp (maxSteps := 10000000) only [isE_nil, is_cons, bo_p, bo_box, bo_orow, bo_rowp, any_cons', all_cons', all_nil', Bool.true_or, Bool.or_true, ↓sx, sx, ↓reduceIte, Nat.reduceEqDiff, Nat.reduceBeqDiff]
        exact ⟨rfl, rfl, rfl⟩
      · rintro i ⟨h1, h2, h3⟩
        have t1 : Int.toNat 1 = 1 := rfl
        have c0 : ((0 : Nat) : Int) = 0 := rfl
        have c1 : ((1 : Nat) : Int) = 1 := rfl
        have c2 : ((2 : Nat) : Int) = 2 := rfl
        have d0 : decide ((0 : Int) < 2) = true := by decide
        have d1 : decide ((1 : Int) < 2) = true := by decide
        have d2 : decide ((2 : Int) < 2) = false := by decide
        obtain rfl | rfl | rfl : i = 0 ∨ i = 1 ∨ i = 2 := by omega
        · have g0 : gx 0 0 u = strP [] := rfl
          have g1 : gx 0 1 v = strP [] := rfl
          simp (maxSteps := 10000000) only [↓sx, sx, ↓ty, ↓reduceIte, Nat.reduceEqDiff, Nat.reduceBeqDiff, Nat.reduceAdd, Nat.reduceLeDiff, Nat.reduceLT, Nat.reduceMul, Nat.reduceSub, Int.reduceEq, Int.reduceBNe, Int.reduceBEq, ne_eq, not_false_eq_true, pc, ls, bs, and_true, true_and, and_self, Nat.reduceAdd, Nat.le_refl, leafP, c0, d0, g0, g1]
          refine ⟨by decide, ?_⟩
          refine CallT.mk (t := ⟨⟩) (nroot_n p u (by omega) rp) ?_
          simp (maxSteps := 10000000) only [↓sx, sx, ↓ty, ↓reduceIte, Nat.reduceEqDiff, Nat.reduceBeqDiff, Nat.reduceAdd, Nat.reduceLeDiff, Nat.reduceLT, Nat.reduceMul, Nat.reduceSub, Int.reduceEq, Int.reduceBNe, Int.reduceBEq, ne_eq, not_false_eq_true, pc, ls, bs, and_true, true_and, and_self, Nat.reduceAdd, Nat.le_refl, leafP]
          refine ⟨by decide, by decide, by decide, ?_⟩
          refine CallT.mk (t := ⟨⟩) (nmul_n u u (by have := Lw_root rp.1; omega) (by have := Lw_root rp.1; omega)) ?_
          simp (maxSteps := 10000000) only [↓sx, sx, ↓ty, ↓reduceIte, Nat.reduceEqDiff, Nat.reduceBeqDiff, Nat.reduceAdd, Nat.reduceLeDiff, Nat.reduceLT, Nat.reduceMul, Nat.reduceSub, Int.reduceEq, Int.reduceBNe, Int.reduceBEq, ne_eq, not_false_eq_true, pc, ls, bs, and_true, true_and, and_self, Nat.reduceAdd, Nat.le_refl, leafP, dec_beq]
          refine vcIf_not (fun he => ?_) (fun he => ?_)
          · refine NextK.mk 1 (by omega) ⟨by omega, fun _ => by simpa using he, by omega⟩ ?_
            simp (maxSteps := 10000000) only [isE_nil, is_cons, bo_p, bo_box, bo_orow, bo_rowp, any_cons', all_cons', all_nil', Bool.true_or, Bool.or_true, ↓sx, sx, ↓reduceIte, Nat.reduceEqDiff, Nat.reduceBeqDiff]
            exact ⟨rfl, rfl, rfl⟩
          · (try try rw [if_neg h0]); rw [if_neg]
            rintro ⟨k1, k2⟩
            simp [k1] at he
        · have g0 : gx 1 0 u = dP u := rfl
          have g1 : gx 1 1 v = strP [] := rfl
          simp (maxSteps := 10000000) only [↓sx, sx, ↓ty, ↓reduceIte, Nat.reduceEqDiff, Nat.reduceBeqDiff, Nat.reduceAdd, Nat.reduceLeDiff, Nat.reduceLT, Nat.reduceMul, Nat.reduceSub, Int.reduceEq, Int.reduceBNe, Int.reduceBEq, ne_eq, not_false_eq_true, pc, ls, bs, and_true, true_and, and_self, Nat.reduceAdd, Nat.le_refl, leafP, c1, d1, g0, g1]
          refine ⟨by decide, ?_⟩
          refine CallT.mk (t := ⟨⟩) (nroot_n q v (by omega) rq) ?_
          simp (maxSteps := 10000000) only [↓sx, sx, ↓ty, ↓reduceIte, Nat.reduceEqDiff, Nat.reduceBeqDiff, Nat.reduceAdd, Nat.reduceLeDiff, Nat.reduceLT, Nat.reduceMul, Nat.reduceSub, Int.reduceEq, Int.reduceBNe, Int.reduceBEq, ne_eq, not_false_eq_true, pc, ls, bs, and_true, true_and, and_self, Nat.reduceAdd, Nat.le_refl, leafP, t1]
          refine ⟨by decide, by decide, by decide, ?_⟩
          refine CallT.mk (t := ⟨⟩) (nmul_n v v (by have := Lw_root rq.1; omega) (by have := Lw_root rq.1; omega)) ?_
          simp (maxSteps := 10000000) only [↓sx, sx, ↓ty, ↓reduceIte, Nat.reduceEqDiff, Nat.reduceBeqDiff, Nat.reduceAdd, Nat.reduceLeDiff, Nat.reduceLT, Nat.reduceMul, Nat.reduceSub, Int.reduceEq, Int.reduceBNe, Int.reduceBEq, ne_eq, not_false_eq_true, pc, ls, bs, and_true, true_and, and_self, Nat.reduceAdd, Nat.le_refl, leafP, dec_beq]
          refine vcIf_not (fun he => ?_) (fun he => ?_)
          · refine NextK.mk 2 (by omega) ⟨by omega, fun _ => h2 (by omega), fun _ => by simpa using he⟩ ?_
            simp (maxSteps := 10000000) only [isE_nil, is_cons, bo_p, bo_box, bo_orow, bo_rowp, any_cons', all_cons', all_nil', Bool.true_or, Bool.or_true, ↓sx, sx, ↓reduceIte, Nat.reduceEqDiff, Nat.reduceBeqDiff]
            exact ⟨rfl, rfl⟩
          · (try try rw [if_neg h0]); rw [if_neg]
            rintro ⟨k1, k2⟩
            simp [k2] at he
        · have g0 : gx 2 0 u = dP u := rfl
          have g1 : gx 2 1 v = dP v := rfl
          simp (maxSteps := 10000000) only [↓sx, sx, ↓ty, ↓reduceIte, Nat.reduceEqDiff, Nat.reduceBeqDiff, Nat.reduceAdd, Nat.reduceLeDiff, Nat.reduceLT, Nat.reduceMul, Nat.reduceSub, Int.reduceEq, Int.reduceBNe, Int.reduceBEq, ne_eq, not_false_eq_true, pc, ls, bs, and_true, true_and, and_self, Nat.reduceAdd, Nat.le_refl, leafP, c2, d2, g0, g1, t1]
          refine ⟨by decide, by decide, ?_⟩
          have v0 : (v : Int) ≠ 0 := by
            intro hv
            have : v = 0 := by omega
            subst this
            have := rq.2
            have := h3 (by omega)
            omega
          have mk := rmake_q u v (by have := Lw_root rp.1; simp; omega) (by have := Lw_root rq.1; simp; omega) v0
          rw [siP_nat, siP_nat] at mk
          refine CallT.mk (t := ⟨⟩) mk ?_
          simp (maxSteps := 10000000) only [↓sx, sx, ↓ty, ↓reduceIte, Nat.reduceEqDiff, Nat.reduceBeqDiff, Nat.reduceAdd, Nat.reduceLeDiff, Nat.reduceLT, Nat.reduceMul, Nat.reduceSub, Int.reduceEq, Int.reduceBNe, Int.reduceBEq, ne_eq, not_false_eq_true, pc, ls, bs, and_true, true_and, and_self, Nat.reduceAdd, Nat.le_refl, leafP]
          (try try rw [if_neg h0]); rw [if_pos ⟨h2 (by omega), h3 (by omega)⟩]
end Go.Proofs.YthhefojkkgjcfaaGreatDoor.S
