/- A part of a proof; the last text of this claim says of what. -/
import Derived.Test.YtnlabeglboomlaaGreatDoorV30
import Derived.Maps.OwnSet
import Derived.WalkKit
import Derived.WalkSpells
import Derived.ChangeSame
import Derived.OpenShut
import Derived.Carry
import Derived.ChangeOld
import Derived.ProofKit
import Derived.Laws.AppendOwn
import Derived.Deep.RegionLaw
import Derived.Laws.IdiomCopy
import Derived.Laws.OwnMore
set_option linter.unusedVariables false
set_option linter.unusedSimpArgs false
set_option linter.unusedSectionVars false
namespace Gb
open Go Go.RowKit Go.Sx Go.Maps Go.WideMaps
def setD : List (List UInt8) → DataW Unit
  | [] => .map []
  | n :: r => (setD r).put (.string n) (.lit (.bool true))
theorem setD_map : ∀ s, IsMap (setD s)
  | [] => isMap_empty
  | n :: r => (setD_map r).put _ _
theorem str_ne {a b : List UInt8} (h : a ≠ b) : (Lit.string a) ≠ .string b := fun e => h (by cases e; rfl)
theorem setD_at (nm : List UInt8) : ∀ s : List (List UInt8), (setD s).atKey (.string nm) (.lit (.bool false)) = .lit (.bool (s.contains nm))
  | [] => rfl
  | n :: r => by
    show ((setD r).put (.string n) (.lit (.bool true))).atKey (.string nm) (.lit (.bool false)) = _
    rw [List.contains_cons]
    by_cases h : nm = n
    · subst h
      rw [atKey_put_same (setD_map r) (k := .string nm) True.intro, beq_self_eq_true, Bool.true_or]
    · rw [atKey_put_other (str_ne h), setD_at nm r, beq_eq_false_iff_ne.2 h, Bool.false_or]
theorem look_set {P : Program} {w : World} {b n : Nat} {s : List (List UInt8)} {k e t : TypeId} (h : w.ownsMap P k (plainElem P e) b n (setD s)) (hk : P.underlying k = some .string) (he : P.underlying e = some .bool) (ht : P.underlying t = some (.map k e))
    (hz : (zeroValue e).run P w = .ok (.bool false) w) (nm : List UInt8) (hn : nm.length ≤ maxLen) : (Instr.lookup t (.map (some b)) (.string ⟨nm.toArray⟩) false).run P w = .ok (.bool (s.contains nm)) w := by
  obtain ⟨v, ps, h1, h2⟩ := h.lookup (string_keyed hk) ht hz (plainElem_bool he false) (keyOf_string_mk hk (s := ⟨nm.toArray⟩) (by show nm.toArray.size ≤ _; simpa using hn))
  rw [show ((⟨nm.toArray⟩ : ByteArray).data.toList) = nm by simp, setD_at] at h2
  unfold plainElem at h2
  rw [he] at h2
  cases v <;> simp at h2
  rw [h1, h2.1]; simp
end Gb
namespace Gb
open Go Go.RowKit Go.Sx
def chkI (seen : List (List UInt8)) : List Wt → Int
  | [] => 0
  | w :: r => if faultI w = 0 then (if seen.contains w.nm then 6 else chkI (w.nm :: seen) r) else faultI w
theorem chkI_cons (s : List (List UInt8)) (w : Wt) (r : List Wt) : chkI s (w :: r) = if faultI w = 0 then (if s.contains w.nm then 6 else chkI (w.nm :: s) r) else faultI w := rfl
def namesR (l : List Wt) : List (List UInt8) := (l.map (·.nm)).reverse
theorem namesR_snoc (l : List Wt) (w : Wt) : namesR (l ++ [w]) = w.nm :: namesR l := by unfold namesR; simp
def check24 (l : List Wt) : Int := if 64 < l.length then 8 else chkI [] l
theorem getA {l : List Wt} {k : Nat} (h : k < l.length) : ∃ x, l[k]? = some x := ⟨l[k], List.getElem?_eq_getElem h⟩
theorem drop_at {α : Type} {l : List α} {k : Nat} {x : α} (h : l[k]? = some x) : l.drop k = x :: l.drop (k + 1) := by
  obtain ⟨hl, rfl⟩ := List.getElem?_eq_some_iff.1 h
  exact List.drop_eq_getElem_cons hl
end Gb
namespace Go.Proofs.YtnlabeglboomlaaGreatDoor.S
open Go Go.Sx Go.RowKit Gb Go.Shelf Go.Maps Go.WideMaps
theorem keyS : Keyed Tryz.prog 9 := string_keyed Tryz.underlying9
theorem zeroB (w : World) : (zeroValue 4).run Tryz.prog w = .ok (.bool false) w := by kernel_rfl
set_option maxRecDepth 100000 in
set_option maxHeartbeats 4000000 in
theorem lcheck_any (B : Nat → Prop) (b o cap : Nat) (l : List Wt) (w : World) (hG : Gd w) (hB : ∀ x, B x → x < w.heap.size) (hb : B b) (hr : RepC B w (recs wtC l) b o) (hl : l.length ≤ 64) (hs : ∀ x ∈ l, x.lt 20000) :
    Calls Tryz.prog 20 #[.slice (some ⟨b, o, none⟩) l.length cap] w fun e w' => e = .returned (.int .i64 (chkI [] l)) ∧ Below w.heap.size w w' := by
  have hmm := @run_makeMap Tryz.prog
  have hlb : b < w.heap.size := hB b hb
  have hR0 : chkI [] (l.drop 0) = chkI [] l := rfl
  generalize hR : chkI [] l = R at *
  go_enter Tryz.func20, Tryz.ntmps20
  go_wp2
  go_loopw [12] (fun i wr => ∃ k : Nat, k ≤ l.length ∧ i = .int .i64 k ∧ wr.ownsMap Tryz.prog 9 (plainElem Tryz.prog 4) w.heap.size k (setD (namesR (l.take k))) ∧ Below w.heap.size w wr ∧ chkI (namesR (l.take k)) (l.drop k) = R)
    (fun i _ => l.length - (RowKit.intOf i).toNat)
  case atStart => exact ⟨0, Nat.zero_le _, rfl, World.ownsMap_made _ _ _ _, (Below.refl _ _).alloc (Nat.le_refl _) _, hR0⟩
  case round =>
    obtain ⟨k, hk, rfl, hown, hnx, hv⟩ := hrel
    have hmx : k < l.length → ∃ x, l[k]? = some x := fun h => getA h
    by_cases hkl : k < l.length
    · obtain ⟨x, hx⟩ := getA hkl
      have hrk : RepC B w (wtC x ++ recs wtC (l.drop (k + 1))) b (o + k * 7) := by
        have := hr.drop (k * 7)
        rwa [recs_drop wtC_len l k x hx] at this
      have hxs := hs x (List.mem_of_getElem? hx)
      have hGr : Gd wr := gd _ _ hG hnx
      have hBr : ∀ y, B y → y < wr.heap.size := fun y hy => Nat.lt_of_lt_of_le (hB y hy) hnx.size
      have hrr : RepC B wr (wtC x ++ recs wtC (l.drop (k + 1))) b (o + k * 7) := RepC.mono (fun y hy => ⟨hy, hnx.block _ (hB y hy)⟩) _ _ _ hb hrk
      have F : Calls Tryz.prog 61 #[.pointer (some ⟨b, o + k * 7, none⟩)] wr fun e w' => e = .returned (.int .i64 (faultI x)) ∧ Below wr.heap.size wr w' :=
        ((lfault_n x _ hxs).calls B [.pointer (some ⟨b, o + k * 7, none⟩)] wr hBr (by simp only [RepL, RepP]; exact ⟨_, _, rfl, ⟨b, _, rfl, hb, hrr⟩, rfl⟩) hGr).mono fun e W' ⟨v, he, hv, hb⟩ => ⟨by rw [he]; simp only [iP, RepP] at hv; rw [hv], hb⟩
      have hc0 : w.cell? ⟨b, o + k * 7, none⟩ = some (.string ⟨x.nm.toArray⟩) := by
        have := hrk
        unfold wtC at this
        simp only [List.cons_append, RepC, RepP] at this
        obtain ⟨⟨y, h1, rfl⟩, _⟩ := this
        exact h1
      rw [drop_at hx] at hv
      rw [chkI_cons] at hv
      have hnl : x.nm.length ≤ maxLen := by have := hxs.1; unfold maxLen; omega
      have hkey : keyOf Tryz.prog 9 (.string ⟨x.nm.toArray⟩) = some (.string x.nm) := by
        have := keyOf_string_mk Tryz.underlying9 (s := ⟨x.nm.toArray⟩) (by show x.nm.toArray.size ≤ _; simpa using hnl)
        simpa using this
      by_cases hf : faultI x = 0
      · have hfb : (faultI x != 0) = false := by rw [hf]; rfl
        rw [if_pos hf] at hv
        cases hsn : (namesR (l.take k)).contains x.nm with
        | true =>
          rw [hsn, if_pos rfl] at hv
          go_wp2_with (first
            | (go_at_call 61; refine F.mono ?_; rintro e W1 ⟨rfl, hB1⟩
               have hnx1 : Below w.heap.size w W1 := hnx.trans (hB1.mono hnx.size)
               have hc1 : W1.cell? ⟨b, o + k * 7, none⟩ = some (.string ⟨x.nm.toArray⟩) := (hnx1.cell hlb).trans hc0
               have hown1 := hown.kept (grownBy_below hB1 (Nat.le_refl _) none) (by simp)
               have hlk := look_set hown1 Tryz.underlying9 Tryz.underlying4 Tryz.underlying86 (zeroB W1) x.nm hnl
               rw [hsn] at hlk)
            | go_in)
          · go_ret
            exact ⟨by rw [← hv]; rfl, hnx1⟩
        | false =>
          rw [hsn, if_neg (by decide)] at hv
          go_wp2_with (first
            | (go_at_call 61; refine F.mono ?_; rintro e W1 ⟨rfl, hB1⟩
               have hnx1 : Below w.heap.size w W1 := hnx.trans (hB1.mono hnx.size)
               have hc1 : W1.cell? ⟨b, o + k * 7, none⟩ = some (.string ⟨x.nm.toArray⟩) := (hnx1.cell hlb).trans hc0
               have hown1 := hown.kept (grownBy_below hB1 (Nat.le_refl _) none) (by simp)
               have hlk := look_set hown1 Tryz.underlying9 Tryz.underlying4 Tryz.underlying86 (zeroB W1) x.nm hnl
               rw [hsn] at hlk)
            | (at_mapUpdate; refine wpList_mapUpdate_own _ rfl _ _ _ 86 rfl 9 4 keyS Tryz.underlying86 (plainElem (H := Unit) Tryz.prog 4) w.heap.size k _ rfl hown1 (by unfold maxLen; omega) _ _ _ rfl rfl hkey _ [] (plainElem_bool Tryz.underlying4 true) ?_; intro w2 hown2 hgrow2)
            | go_in)
          · go_roundw
            case rel =>
              refine ⟨k + 1, by omega, by go_num, ?_, hnx1.grown hgrow2 hnx1.size (fun j hj => by cases hj; exact Nat.le_refl _), ?_⟩
              · rw [take_snocA hx, namesR_snoc]; exact hown2
              · rw [take_snocA hx, namesR_snoc]; exact hv
            case measure => simp [RowKit.intOf]; omega
      · have hfb : (faultI x != 0) = true := by simp [hf]
        rw [if_neg hf] at hv
        go_wp2_with (first
          | (go_at_call 61; refine F.mono ?_; rintro e W1 ⟨rfl, hB1⟩)
          | go_in)
        · go_ret
          exact ⟨by rw [← hv]; rfl, hnx.trans (hB1.mono hnx.size)⟩
    · have : k = l.length := by omega
      subst this
      rw [List.drop_length] at hv
      go_wp2
      go_ret
      exact ⟨by rw [← hv]; rfl, hnx⟩
set_option maxRecDepth 100000 in
theorem lcheck_none (a : Option Addr) (cap : Nat) (w : World) : Calls Tryz.prog 20 #[.slice a 0 cap] w fun e w' => e = .returned (.int .i64 0) ∧ Below w.heap.size w w' := by
  have hmm := @run_makeMap Tryz.prog
  go_enter Tryz.func20, Tryz.ntmps20
  go_wp2
  refine wp_loop_rounds 1 ?_
  rw [rounds_succ]
  go_wp2
  go_ret
  exact ⟨rfl, (Below.refl _ _).alloc (Nat.le_refl _) _⟩
set_option maxRecDepth 100000 in
theorem lcheck_many (a : Option Addr) (n cap : Nat) (hn : 64 < n) (w : World) : Calls Tryz.prog 20 #[.slice a n cap] w fun e w' => e = .returned (.int .i64 8) ∧ Below w.heap.size w w' := by
  go_enter Tryz.func20, Tryz.ntmps20
  go_wp2
  go_ret
  exact ⟨rfl, Below.refl _ _⟩
theorem lcheck_n (l : List Wt) (hs : ∀ x ∈ l, x.lt 20000) : Meets Tryz.prog Gd 20 [.sl l.length (recs wtC l)] (iP (check24 l)) := by
  refine ⟨enters_of Tryz.func20 (by kernel_rfl) rfl, fun B vs w hB hr hG => ?_⟩
  simp only [RepL] at hr
  obtain ⟨v, _, rfl, hv, rfl⟩ := hr
  simp only [RepP] at hv
  obtain ⟨a, c, rfl, h1, h2, h3⟩ := hv
  have fin : ∀ z : Int, Calls Tryz.prog 20 #[.slice a l.length c] w (fun e w' => e = .returned (.int .i64 z) ∧ Below w.heap.size w w') → z = check24 l → Calls Tryz.prog 20 ⟨[.slice a l.length c]⟩ w fun en w' => FinP B w (iP (check24 l)) en w' := fun z h hz => h.mono fun e w' ⟨he, hb⟩ => ⟨_, he, by simp only [iP, RepP]; rw [hz], hb⟩
  unfold check24 at fin ⊢
  by_cases h64 : 64 < l.length
  · rw [if_pos h64] at fin ⊢
    exact fin 8 (lcheck_many a l.length c h64 w) rfl
  · rw [if_neg h64] at fin ⊢
    cases l with
    | nil => exact fin 0 (lcheck_none a c w) rfl
    | cons x r =>
      rcases h3 with h3 | ⟨b, o, rfl, hb, hr⟩
      · cases h3
      · exact fin _ (lcheck_any B b o c (x :: r) w hG hB hb hr (by omega) hs) rfl
end Go.Proofs.YtnlabeglboomlaaGreatDoor.S
namespace Gb
open Go Go.RowKit Go.Sx
def Wt.b (w : Wt) : Prop := w.nm.length < 20000 ∧ w.m.length ≤ 45 ∧ w.c.lt 231 ∧ w.fr.length < 231 ∧ w.tt.length < 231
theorem Wt.b.lt {w : Wt} (h : w.b) : w.lt 20000 := by
  obtain ⟨h1, h2, ⟨h3, h4, h5⟩, h6, h7⟩ := h
  exact ⟨h1, by omega, ⟨by omega, by omega, by omega⟩, by omega, by omega⟩
def totM (l : List Wt) : Rat := (l.map fun w => ratOf w.m).foldl (· + ·) 0
def totV (l : List Wt) : Vq := (l.map fun w => w.c.val.scale (ratOf w.m)).foldl Vq.add ⟨0, 0, 0⟩
theorem totM_snoc (l : List Wt) (w : Wt) : totM (l ++ [w]) = totM l + ratOf w.m := by unfold totM; simp
theorem totV_snoc (l : List Wt) (w : Wt) : totV (l ++ [w]) = (totV l).add (w.c.val.scale (ratOf w.m)) := by unfold totV; simp
theorem SzV.add {k m : Nat} {a b : Vq} (ha : SzV k a) (hb : SzV m b) : SzV (k + m + 1) (a.add b) := ⟨ha.1.addT hb.1, ha.2.1.addT hb.2.1, ha.2.2.addT hb.2.2⟩
theorem SzV.scale {k m : Nat} {a : Vq} {x : Rat} (ha : SzV k a) (hx : Sz m x) : SzV (k + m) (a.scale x) := ⟨ha.1.mulT hx, ha.2.1.mulT hx, ha.2.2.mulT hx⟩
theorem chk_ok : ∀ (l : List Wt) (s : List (List UInt8)), chkI s l = 0 → ∀ w ∈ l, faultI w = 0
  | [], _, _, w, h => by cases h
  | x :: l, s, hc, w, h => by
    rw [chkI_cons] at hc
    split at hc
    · rename_i h1
      split at hc
      · omega
      · rcases List.mem_cons.1 h with rfl | h
        · exact h1
        · exact chk_ok l _ hc w h
    · rename_i h1; exact absurd hc h1
theorem fault_ok {w : Wt} (h : faultI w = 0) : namB w.nm = true ∧ isRat w.m = true ∧ w.c.rat = true ∧ isRat w.fr = true ∧ isRat w.tt = true ∧ 0 ≤ ratOf w.m ∧ ratOf w.fr < ratOf w.tt ∧ ratOf w.fr + ratOf w.tt = 2 * ratOf w.c.x := by
  unfold faultI at h
  split at h
  · rename_i h1
    split at h
    · rename_i h2
      unfold Wt.rat at h2
      simp only [Bool.and_eq_true] at h2
      split at h
      · omega
      · rename_i h3
        split at h
        · rename_i h4
          exact ⟨h1, h2.1.1.1, h2.1.1.2, h2.1.2, h2.2, by grind, by grind, h4⟩
        · omega
    · omega
  · omega
theorem check24_ok {l : List Wt} (h : check24 l = 0) : l.length ≤ 64 ∧ ∀ w ∈ l, faultI w = 0 := by
  unfold check24 at h
  split at h
  · omega
  · exact ⟨by omega, chk_ok l _ h⟩
theorem totM_sz : ∀ (n : Nat) (l : List Wt), l.length = n → (∀ w ∈ l, isRat w.m = true ∧ w.m.length ≤ 45) → Sz (7 * n + 1) (totM l)
  | 0, l, h, _ => by rw [List.length_eq_zero_iff.1 h]; exact Sz0 _ (by omega)
  | n + 1, l, h, hb => by
    rcases List.eq_nil_or_concat l with rfl | ⟨a, c, rfl⟩
    · cases h
    · rw [List.concat_eq_append] at *
      rw [totM_snoc]
      have h1 := totM_sz n a (by simp at h; omega) (fun w hw => hb w (List.mem_append_left _ hw))
      have h2 := hb c (by simp)
      exact (h1.addT ((Sz.text h2.1).mono (m := 6) (by omega))).mono (by omega)
theorem totV_sz : ∀ (n : Nat) (l : List Wt), l.length = n → (∀ w ∈ l, isRat w.m = true ∧ w.m.length ≤ 45 ∧ w.c.rat = true ∧ w.c.lt 231) → SzV (33 * n + 1) (totV l)
  | 0, l, h, _ => by rw [List.length_eq_zero_iff.1 h]; exact ⟨Sz0 _ (by omega), Sz0 _ (by omega), Sz0 _ (by omega)⟩
  | n + 1, l, h, hb => by
    rcases List.eq_nil_or_concat l with rfl | ⟨a, c, rfl⟩
    · cases h
    · rw [List.concat_eq_append] at *
      rw [totV_snoc]
      have h1 := totV_sz n a (by simp at h; omega) (fun w hw => hb w (List.mem_append_left _ hw))
      have h2 := hb c (by simp)
      exact (h1.add ((vt_sz h2.2.2.1 h2.2.2.2).scale ((Sz.text h2.1).mono (m := 6) (by omega)))).mono (by omega)
noncomputable def totalP (l : List Wt) : PV := if check24 l = 0 then .tup [rtP (totM l), vqP (totV l), iP 0] else .tup [strP [], vtP Vt.nil, iP (check24 l)]
noncomputable def centreP (l : List Wt) : PV := if check24 l = 0 then (if totM l = 0 then .tup [vtP Vt.nil, iP 16] else .tup [vqP ((totV l).scale (1 / totM l)), iP 0]) else .tup [vtP Vt.nil, iP (check24 l)]
theorem vq_txt (v : Vq) : v.txt.rat = true ∧ v.txt.val = v := by
  unfold Vq.txt Vt.rat Vt.val
  simp only [isRat_rT, ratOf_rT]
  exact ⟨rfl, trivial⟩
end Gb
namespace Go.Proofs.YtnlabeglboomlaaGreatDoor.S
open Go Go.Sx Go.RowKit Gb Go.Shelf
theorem vq_lt (a : Vq) (ha : SzV 4000 a) : a.txt.lt 80000 := ⟨by have := rT_len ha.1; show (rT a.x).length < _; omega, by have := rT_len ha.2.1; show (rT a.y).length < _; omega, by have := rT_len ha.2.2; show (rT a.z).length < _; omega⟩
set_option maxRecDepth 100000 in
theorem vaddQ_n (a b : Vq) (ha : SzV 4000 a) (hb : SzV 4000 b) : Meets Tryz.prog Gd 44 [vqP a, vqP b] (.tup [vqP (a.add b), iP 0]) := by
  refine meets_of_vc (Y := {}) (N := 11) (rs := [.cell 4 28, .tmp 5]) mix tk gd Tryz.func44 rfl (by kernel_rfl) rfl rfl (by simp) (by kernel_rfl) ?_
  have A := vapply_n 84 Vq.add a.txt b.txt (vq_lt a ha) (vq_lt b hb) (fun _ _ => by
    have := vadd1_q a b ha hb
    rw [(vq_txt a).2, (vq_txt b).2]
    exact this)
  rw [(vq_txt a).1, (vq_txt b).1, (vq_txt a).2, (vq_txt b).2, if_pos (show (true && true) = true from rfl), vtP_txt, vtP_txt] at A
  generalize a.add b = r at *
  simp (maxSteps := 10000000) only [↓sx, sx, ↓ty, ↓reduceIte, Nat.reduceEqDiff, Nat.reduceBeqDiff, Nat.reduceAdd, Nat.reduceLeDiff, Nat.reduceLT, Nat.reduceMul, Nat.reduceSub, Int.reduceEq, Int.reduceBNe, Int.reduceBEq, ne_eq, not_false_eq_true, pc, ls, bs, and_true, true_and, and_self, Nat.reduceAdd, Nat.le_refl, leafP, pv, cn]
  refine CallT.mk (t := ⟨⟩) A ?_
  simp (maxSteps := 10000000) only [↓sx, sx, ↓ty, ↓reduceIte, Nat.reduceEqDiff, Nat.reduceBeqDiff, Nat.reduceAdd, Nat.reduceLeDiff, Nat.reduceLT, Nat.reduceMul, Nat.reduceSub, Int.reduceEq, Int.reduceBNe, Int.reduceBEq, ne_eq, not_false_eq_true, pc, ls, bs, and_true, true_and, and_self, Nat.reduceAdd, Nat.le_refl, leafP, pv, cn]
set_option maxRecDepth 100000 in
theorem vscaleQ_n (a : Vq) (k : Rat) (ha : SzV 4000 a) (hk : Sz 4000 k) : Meets Tryz.prog Gd 42 [vqP a, rtP k] (.tup [vqP (a.scale k), iP 0]) := by
  refine meets_of_vc (Y := {}) (N := 18) (rs := [.cell 4 28, .tmp 5]) mix tk gd Tryz.func42 rfl (by kernel_rfl) rfl rfl (by simp) (by kernel_rfl) ?_
  have V := vvalid_n a.txt (vq_lt a ha)
  have K := rvalid_n (rT k) (by have := rT_len hk; omega)
  have S := vscale_q a k ha hk
  rw [(vq_txt a).1, vtP_txt] at V
  rw [isRat_rT] at K
  generalize a.scale k = r at *
  simp (maxSteps := 10000000) only [↓sx, sx, ↓ty, ↓reduceIte, Nat.reduceEqDiff, Nat.reduceBeqDiff, Nat.reduceAdd, Nat.reduceLeDiff, Nat.reduceLT, Nat.reduceMul, Nat.reduceSub, Int.reduceEq, Int.reduceBNe, Int.reduceBEq, ne_eq, not_false_eq_true, pc, ls, bs, and_true, true_and, and_self, Nat.reduceAdd, Nat.le_refl, leafP, pv, cn]
  refine CallT.mk (t := ⟨⟩) V ?_
  simp (maxSteps := 10000000) only [↓sx, sx, ↓ty, ↓reduceIte, Nat.reduceEqDiff, Nat.reduceBeqDiff, Nat.reduceAdd, Nat.reduceLeDiff, Nat.reduceLT, Nat.reduceMul, Nat.reduceSub, Int.reduceEq, Int.reduceBNe, Int.reduceBEq, ne_eq, not_false_eq_true, pc, ls, bs, and_true, true_and, and_self, Nat.reduceAdd, Nat.le_refl, leafP, pv, cn]
  refine CallT.mk (t := ⟨⟩) K ?_
  simp (maxSteps := 10000000) only [↓sx, sx, ↓ty, ↓reduceIte, Nat.reduceEqDiff, Nat.reduceBeqDiff, Nat.reduceAdd, Nat.reduceLeDiff, Nat.reduceLT, Nat.reduceMul, Nat.reduceSub, Int.reduceEq, Int.reduceBNe, Int.reduceBEq, ne_eq, not_false_eq_true, pc, ls, bs, and_true, true_and, and_self, Nat.reduceAdd, Nat.le_refl, leafP, pv, cn]
  refine CallT.mk (t := ⟨⟩) S ?_
  simp (maxSteps := 10000000) only [↓sx, sx, ↓ty, ↓reduceIte, Nat.reduceEqDiff, Nat.reduceBeqDiff, Nat.reduceAdd, Nat.reduceLeDiff, Nat.reduceLT, Nat.reduceMul, Nat.reduceSub, Int.reduceEq, Int.reduceBNe, Int.reduceBEq, ne_eq, not_false_eq_true, pc, ls, bs, and_true, true_and, and_self, Nat.reduceAdd, Nat.le_refl, leafP, pv, cn]
set_option maxRecDepth 100000 in
set_option maxHeartbeats 8000000 in
theorem ltotal_n (l : List Wt) (hb : ∀ x ∈ l, x.b) : Meets Tryz.prog Gd 13 [.sl l.length (recs wtC l)] (totalP l) := by
  refine meets_of_vc (Y := {}) (N := 53) (rs := [.tmp 2, .cell 3 28, .tmp 4]) mix tk gd Tryz.func13 rfl (by kernel_rfl) rfl rfl (by simp) (by kernel_rfl) ?_
  have C := lcheck_n l (fun x hx => (hb x hx).lt)
  unfold totalP
  rw [vt_nil]
  by_cases h0 : check24 l = 0
  · obtain ⟨hl, hf⟩ := check24_ok h0
    rw [h0] at C
    rw [if_pos h0]
    simp (maxSteps := 10000000) only [↓sx, sx, ↓ty, ↓reduceIte, Nat.reduceEqDiff, Nat.reduceBeqDiff, Nat.reduceAdd, Nat.reduceLeDiff, Nat.reduceLT, Nat.reduceMul, Nat.reduceSub, Int.reduceEq, Int.reduceBNe, Int.reduceBEq, ne_eq, not_false_eq_true, pc, ls, bs, and_true, true_and, and_self, Nat.reduceAdd, Nat.le_refl, leafP, pv]
    refine CallT.mk (t := ⟨⟩) C ?_
    simp (maxSteps := 10000000) only [↓sx, sx, ↓ty, ↓reduceIte, Nat.reduceEqDiff, Nat.reduceBeqDiff, Nat.reduceAdd, Nat.reduceLeDiff, Nat.reduceLT, Nat.reduceMul, Nat.reduceSub, Int.reduceEq, Int.reduceBNe, Int.reduceBEq, ne_eq, not_false_eq_true, pc, ls, bs, and_true, true_and, and_self, Nat.reduceAdd, Nat.le_refl, leafP, pv]
    refine loopK_of (fun i : Nat => [(0, .p (.sl l.length (recs wtC l))), (2, .p (strP [])), (3, .box 3 0), (4, .p (iP 0)), (6, .p (rtP (totM (l.take i)))), (7, .box 7 0), (19, .p (.val (.int .i64 (l.length : Nat)))), (20, .p (.val (.int .i64 (i : Nat))))]) (fun i => [(3, (28, [strP [], strP [], strP []])), (7, (28, [rtP (totV (l.take i)).x, rtP (totV (l.take i)).y, rtP (totV (l.take i)).z]))]) (fun _ => []) (fun i => i ≤ l.length) (fun i => l.length - i) 0 (Nat.zero_le _) ?_ ?_
    · simp (maxSteps := 10000000) only [isE_nil, is_cons, bo_p, bo_box, bo_orow, bo_rowp, any_cons', all_cons', all_nil', Bool.true_or, Bool.or_true, ↓sx, sx, ↓reduceIte, Nat.reduceEqDiff, Nat.reduceBeqDiff, pv]
      rw [show totM [] = 0 from rfl, show totV [] = ⟨0, 0, 0⟩ from rfl, c0.1]
      exact ⟨rfl, rfl, rfl, rfl, rfl, rfl⟩
    · intro i hi
      by_cases hil : i < l.length
      · have e1 : decide ((i : Int) < ((l.length : Nat) : Int)) = true := decide_eq_true (by omega)
        obtain ⟨x, hx⟩ := getA hil
        have hm : x ∈ l := List.mem_of_getElem? hx
        obtain ⟨g1, g2, g3, g4, g5, g6, g7, g8⟩ := fault_ok (hf x hm)
        obtain ⟨b1, b2, b3, b4, b5⟩ := hb x hm
        have hd := wt_drop l i x hx
        have hlen : (recs wtC l).length = l.length * 7 := recs_len wtC_len l
        have tl : (l.take i).length = i := by rw [List.length_take]; omega
        have zM := totM_sz i (l.take i) tl (fun w hw => by have hw := List.mem_of_mem_take hw; exact ⟨(fault_ok (hf w hw)).2.1, (hb w hw).2.1⟩)
        have zV := totV_sz i (l.take i) tl (fun w hw => by have hw := List.mem_of_mem_take hw; exact ⟨(fault_ok (hf w hw)).2.1, (hb w hw).2.1, (fault_ok (hf w hw)).2.2.1, (hb w hw).2.2.1⟩)
        have zm := (Sz.text g2).mono (m := 6) (by omega)
        have zc := vt_sz g3 b3
        have S := vscaleQ_n x.c.val (ratOf x.m) (zc.mono (by omega)) (zm.mono (by omega))
        have A := ladd_q (totM (l.take i)) (ratOf x.m) (zM.mono (by omega)) (zm.mono (by omega))
        have AV := vaddQ_n (totV (l.take i)) (x.c.val.scale (ratOf x.m)) (zV.mono (by omega)) ((zc.scale zm).mono (by omega))
        have eM := totM_snoc (l.take i) x
        have eV := totV_snoc (l.take i) x
        rw [← take_snocA hx] at eM eV
        rw [← eM] at A
        rw [← eV] at AV
        rw [vqP_val g3, rtP_of g2] at S
        rw [rtP_of g2] at A
        clear eM eV
        generalize x.c.val.scale (ratOf x.m) = sc at *
        simp (maxSteps := 10000000) only [↓sx, sx, ↓ty, ↓reduceIte, Nat.reduceEqDiff, Nat.reduceBeqDiff, Nat.reduceAdd, Nat.reduceLeDiff, Nat.reduceLT, Nat.reduceMul, Nat.reduceSub, Int.reduceEq, Int.reduceBNe, Int.reduceBEq, ne_eq, not_false_eq_true, pc, ls, bs, and_true, true_and, and_self, Nat.reduceAdd, Nat.le_refl, leafP, pv, e1, hd, hlen]
        refine ⟨⟨by omega, hil, by omega⟩, ⟨by omega, hil, by omega⟩, ?_⟩
        refine CallT.mk (t := ⟨⟩) S ?_
        simp (maxSteps := 10000000) only [↓sx, sx, ↓ty, ↓reduceIte, Nat.reduceEqDiff, Nat.reduceBeqDiff, Nat.reduceAdd, Nat.reduceLeDiff, Nat.reduceLT, Nat.reduceMul, Nat.reduceSub, Int.reduceEq, Int.reduceBNe, Int.reduceBEq, ne_eq, not_false_eq_true, pc, ls, bs, and_true, true_and, and_self, Nat.reduceAdd, Nat.le_refl, leafP, pv, e1, hd, hlen]
        refine ⟨⟨by omega, hil, by omega⟩, ?_⟩
        refine CallT.mk (t := ⟨⟩) A ?_
        simp (maxSteps := 10000000) only [↓sx, sx, ↓ty, ↓reduceIte, Nat.reduceEqDiff, Nat.reduceBeqDiff, Nat.reduceAdd, Nat.reduceLeDiff, Nat.reduceLT, Nat.reduceMul, Nat.reduceSub, Int.reduceEq, Int.reduceBNe, Int.reduceBEq, ne_eq, not_false_eq_true, pc, ls, bs, and_true, true_and, and_self, Nat.reduceAdd, Nat.le_refl, leafP, pv, e1, hd, hlen]
        refine CallT.mk (t := ⟨⟩) AV ?_
        simp (maxSteps := 10000000) only [↓sx, sx, ↓ty, ↓reduceIte, Nat.reduceEqDiff, Nat.reduceBeqDiff, Nat.reduceAdd, Nat.reduceLeDiff, Nat.reduceLT, Nat.reduceMul, Nat.reduceSub, Int.reduceEq, Int.reduceBNe, Int.reduceBEq, ne_eq, not_false_eq_true, pc, ls, bs, and_true, true_and, and_self, Nat.reduceAdd, Nat.le_refl, leafP, pv, e1, hd, hlen]
        refine NextK.mk (i + 1) (by omega) (by omega) ?_
        simp (maxSteps := 10000000) only [isE_nil, is_cons, bo_p, bo_box, bo_orow, bo_rowp, any_cons', all_cons', all_nil', Bool.true_or, Bool.or_true, ↓sx, sx, ↓reduceIte, Nat.reduceEqDiff, Nat.reduceBeqDiff, pv]
        rw [i64_id (by omega) (by omega)]
        first | trivial | rfl | exact ⟨rfl, rfl⟩ | exact ⟨rfl, rfl, rfl⟩ | exact ⟨rfl, rfl, rfl, rfl⟩ | exact ⟨rfl, rfl, rfl, rfl, rfl⟩
      · obtain rfl : i = l.length := by omega
        have e1 : decide (((l.length : Nat) : Int) < ((l.length : Nat) : Int)) = false := decide_eq_false (by omega)
        rw [List.take_length]
        simp (maxSteps := 10000000) only [↓sx, sx, ↓ty, ↓reduceIte, Nat.reduceEqDiff, Nat.reduceBeqDiff, Nat.reduceAdd, Nat.reduceLeDiff, Nat.reduceLT, Nat.reduceMul, Nat.reduceSub, Int.reduceEq, Int.reduceBNe, Int.reduceBEq, ne_eq, not_false_eq_true, pc, ls, bs, and_true, true_and, and_self, Nat.reduceAdd, Nat.le_refl, leafP, pv, e1]
  · have d0 : (check24 l != 0) = true := by simp [h0]
    rw [if_neg h0]
    simp (maxSteps := 10000000) only [↓sx, sx, ↓ty, ↓reduceIte, Nat.reduceEqDiff, Nat.reduceBeqDiff, Nat.reduceAdd, Nat.reduceLeDiff, Nat.reduceLT, Nat.reduceMul, Nat.reduceSub, Int.reduceEq, Int.reduceBNe, Int.reduceBEq, ne_eq, not_false_eq_true, pc, ls, bs, and_true, true_and, and_self, Nat.reduceAdd, Nat.le_refl, leafP, pv]
    refine CallT.mk (t := ⟨⟩) C ?_
    simp (maxSteps := 10000000) only [↓sx, sx, ↓ty, ↓reduceIte, Nat.reduceEqDiff, Nat.reduceBeqDiff, Nat.reduceAdd, Nat.reduceLeDiff, Nat.reduceLT, Nat.reduceMul, Nat.reduceSub, Int.reduceEq, Int.reduceBNe, Int.reduceBEq, ne_eq, not_false_eq_true, pc, ls, bs, and_true, true_and, and_self, Nat.reduceAdd, Nat.le_refl, leafP, pv, d0]
set_option maxRecDepth 100000 in
set_option maxHeartbeats 4000000 in
theorem lcentre_n (l : List Wt) (hb : ∀ x ∈ l, x.b) : Meets Tryz.prog Gd 16 [.sl l.length (recs wtC l)] (centreP l) := by
  refine meets_of_vc (Y := {}) (N := 26) (rs := [.cell 2 28, .tmp 3]) mix tk gd Tryz.func16 rfl (by kernel_rfl) rfl rfl (by simp) (by kernel_rfl) ?_
  have C := ltotal_n l hb
  unfold centreP
  unfold totalP at C
  rw [vt_nil] at C ⊢
  by_cases h0 : check24 l = 0
  · obtain ⟨hl, hf⟩ := check24_ok h0
    rw [if_pos h0] at C ⊢
    have zM := totM_sz l.length l rfl (fun w hw => ⟨(fault_ok (hf w hw)).2.1, (hb w hw).2.1⟩)
    have zV := totV_sz l.length l rfl (fun w hw => ⟨(fault_ok (hf w hw)).2.1, (hb w hw).2.1, (fault_ok (hf w hw)).2.2.1, (hb w hw).2.2.1⟩)
    have eb := rT_zero6 (totM l)
    by_cases hz : totM l = 0
    · rw [if_pos hz]
      rw [decide_eq_true hz] at eb
      generalize totM l = M at *
      generalize totV l = V at *
      simp (maxSteps := 10000000) only [↓sx, sx, ↓ty, ↓reduceIte, Nat.reduceEqDiff, Nat.reduceBeqDiff, Nat.reduceAdd, Nat.reduceLeDiff, Nat.reduceLT, Nat.reduceMul, Nat.reduceSub, Int.reduceEq, Int.reduceBNe, Int.reduceBEq, ne_eq, not_false_eq_true, pc, ls, bs, and_true, true_and, and_self, Nat.reduceAdd, Nat.le_refl, leafP, pv]
      refine CallT.mk (t := ⟨⟩) C ?_
      simp (maxSteps := 10000000) only [↓sx, sx, ↓ty, ↓reduceIte, Nat.reduceEqDiff, Nat.reduceBeqDiff, Nat.reduceAdd, Nat.reduceLeDiff, Nat.reduceLT, Nat.reduceMul, Nat.reduceSub, Int.reduceEq, Int.reduceBNe, Int.reduceBEq, ne_eq, not_false_eq_true, pc, ls, bs, and_true, true_and, and_self, Nat.reduceAdd, Nat.le_refl, leafP, pv, ba_beq, eb]
    · rw [if_neg hz]
      rw [decide_eq_false hz] at eb
      have D := ldiv_q 1 (totM l) (c1.2.mono (by omega)) (zM.mono (by omega)) hz
      rw [c1.1] at D
      have S := vscaleQ_n (totV l) (1 / totM l) (zV.mono (by omega)) ((c1.2.divT zM (by omega)).mono (by omega))
      generalize (totV l).scale (1 / totM l) = R at *
      generalize 1 / totM l = q at *
      generalize totM l = M at *
      generalize totV l = V at *
      simp (maxSteps := 10000000) only [↓sx, sx, ↓ty, ↓reduceIte, Nat.reduceEqDiff, Nat.reduceBeqDiff, Nat.reduceAdd, Nat.reduceLeDiff, Nat.reduceLT, Nat.reduceMul, Nat.reduceSub, Int.reduceEq, Int.reduceBNe, Int.reduceBEq, ne_eq, not_false_eq_true, pc, ls, bs, and_true, true_and, and_self, Nat.reduceAdd, Nat.le_refl, leafP, pv]
      refine CallT.mk (t := ⟨⟩) C ?_
      simp (maxSteps := 10000000) only [↓sx, sx, ↓ty, ↓reduceIte, Nat.reduceEqDiff, Nat.reduceBeqDiff, Nat.reduceAdd, Nat.reduceLeDiff, Nat.reduceLT, Nat.reduceMul, Nat.reduceSub, Int.reduceEq, Int.reduceBNe, Int.reduceBEq, ne_eq, not_false_eq_true, pc, ls, bs, and_true, true_and, and_self, Nat.reduceAdd, Nat.le_refl, leafP, pv, ba_beq, eb]
      refine CallT.mk (t := ⟨⟩) D ?_
      simp (maxSteps := 10000000) only [↓sx, sx, ↓ty, ↓reduceIte, Nat.reduceEqDiff, Nat.reduceBeqDiff, Nat.reduceAdd, Nat.reduceLeDiff, Nat.reduceLT, Nat.reduceMul, Nat.reduceSub, Int.reduceEq, Int.reduceBNe, Int.reduceBEq, ne_eq, not_false_eq_true, pc, ls, bs, and_true, true_and, and_self, Nat.reduceAdd, Nat.le_refl, leafP, pv]
      refine CallT.mk (t := ⟨⟩) S ?_
      simp (maxSteps := 10000000) only [↓sx, sx, ↓ty, ↓reduceIte, Nat.reduceEqDiff, Nat.reduceBeqDiff, Nat.reduceAdd, Nat.reduceLeDiff, Nat.reduceLT, Nat.reduceMul, Nat.reduceSub, Int.reduceEq, Int.reduceBNe, Int.reduceBEq, ne_eq, not_false_eq_true, pc, ls, bs, and_true, true_and, and_self, Nat.reduceAdd, Nat.le_refl, leafP, pv]
  · have d0 : (check24 l != 0) = true := by simp [h0]
    rw [if_neg h0] at C ⊢
    simp (maxSteps := 10000000) only [↓sx, sx, ↓ty, ↓reduceIte, Nat.reduceEqDiff, Nat.reduceBeqDiff, Nat.reduceAdd, Nat.reduceLeDiff, Nat.reduceLT, Nat.reduceMul, Nat.reduceSub, Int.reduceEq, Int.reduceBNe, Int.reduceBEq, ne_eq, not_false_eq_true, pc, ls, bs, and_true, true_and, and_self, Nat.reduceAdd, Nat.le_refl, leafP, pv]
    refine CallT.mk (t := ⟨⟩) C ?_
    simp (maxSteps := 10000000) only [↓sx, sx, ↓ty, ↓reduceIte, Nat.reduceEqDiff, Nat.reduceBeqDiff, Nat.reduceAdd, Nat.reduceLeDiff, Nat.reduceLT, Nat.reduceMul, Nat.reduceSub, Int.reduceEq, Int.reduceBNe, Int.reduceBEq, ne_eq, not_false_eq_true, pc, ls, bs, and_true, true_and, and_self, Nat.reduceAdd, Nat.le_refl, leafP, pv, d0]
end Go.Proofs.YtnlabeglboomlaaGreatDoor.S
namespace Go.Sx
open Go Go.RowKit Go.ChangeShapes Go.WideShapes Go.Shelf Go.Proofs
inductive Sh where
  | str
  | bool
  | int (k : IntKind)
  | agg (l : List Sh)
  | sl (e : Sh)
mutual
def shB (P : Program) : TypeId → Sh → Bool
  | t, .str => match P.underlying t with | some .string => true | _ => false
  | t, .bool => match P.underlying t with | some .bool => true | _ => false
  | t, .int k => match P.underlying t with | some (.int k') => decide (k' = k) | _ => false
  | t, .agg l => match P.underlying t with | some (.struct fs) => shsB P 0 (P.cellsOf t) (fs.toList.map fun f => (f.offset, f.type)) l | _ => false
  | t, .sl e => match P.underlying t with | some (.slice te) => decide (0 < P.cellsOf te) && shB P te e | _ => false
def shsB (P : Program) : Nat → Nat → List (Nat × TypeId) → List Sh → Bool
  | o, n, [], [] => decide (o = n)
  | o, n, f :: fs, s :: l => decide (f.1 = o) && shB P f.2 s && shsB P (o + P.cellsOf f.2) n fs l
  | _, _, _, _ => false
end
mutual
def Fit : Sh → List PV → Prop
  | .str, cs => ∃ s : ByteArray, cs = [.val (.string s)] ∧ s.size ≤ maxLen
  | .bool, cs => ∃ b, cs = [.val (.bool b)]
  | .int k, cs => ∃ n, cs = [.val (.int k n)] ∧ (Lit.int k n).wf = true
  | .agg l, cs => Fits l cs
  | .sl e, cs => ∃ ls : List (List PV), cs = [.sl ls.length ls.flatten] ∧ ls.length ≤ maxLen ∧ ∀ x ∈ ls, Fit e x
def Fits : List Sh → List PV → Prop
  | [], cs => cs = []
  | s :: l, cs => ∃ a b, cs = a ++ b ∧ Fit s a ∧ Fits l b
end
def Fit1 : Sh → PV → Prop
  | .agg l, x => ∃ cs, x = .agg cs ∧ Fits l cs
  | s, x => Fit s [x]
def FitA : List Sh → List PV → Prop
  | [], xs => xs = []
  | s :: l, xs => ∃ y ys, xs = y :: ys ∧ Fit1 s y ∧ FitA l ys
section
variable {H : Type} {enc : TypeId × Value → H} {P : Program} {W : World} {sp : Nat → Bool} {held : Bool}
theorem cell_lt {a : Addr} {v : Value} (h : W.cell? a = some v) : a.block < W.heap.size ∧ a.spot = none := by
  unfold World.cell? at h
  split at h
  · rename_i c _ _ hc
    refine ⟨(Array.getElem?_eq_some_iff.1 hc).1, ?_⟩
    split at h
    · cases h
    · rename_i hs
      cases hq : a.spot with
      | none => rfl
      | some x => rw [hq] at hs; simp at hs
  · cases h
theorem RepL.one {B : Nat → Prop} {x : PV} {v : Value} (h : RepP B W x v) : RepL B W [x] [v] := by
  simp only [RepL]
  exact ⟨v, [], rfl, h, rfl⟩
theorem addr_add (a : Addr) (i j : Nat) : (a.add i).add j = a.add (i + j) := by
  by_cases h1 : i = 0
  · subst h1; simp [Addr.add]
  · by_cases h2 : j = 0
    · subst h2; simp [Addr.add]
    · simp [Addr.add, h1, h2, show ¬ i + j = 0 by omega, Nat.add_assoc]
theorem rows_open {te : TypeId} {n : Nat} {a : Addr} {len : Nat} {elems : List (DataW H × List MemPlace)} (R : List PV → Prop) (hlen : elems.length = len)
    (hel : ∀ i, i < len → (W.cells? 0 (a.add (i * P.cellsOf te)) (P.cellsOf te)).bind (DataW.trod enc P W 0 sp held n te) = elems[i]?)
    (ho : ∀ cs x, DataW.trod enc P W 0 sp held n te cs = some x → ∃ pcs, RepL (· < W.heap.size) W pcs cs ∧ R pcs) :
    ∀ m, m ≤ len → ∃ (ls : List (List PV)) (vs : List Value), ls.length = m ∧ vs.length = m * P.cellsOf te ∧ RepL (· < W.heap.size) W ls.flatten vs ∧ (∀ j v, vs[j]? = some v → W.cell? (a.add j) = some v) ∧ ∀ x ∈ ls, R x
  | 0, _ => ⟨[], [], rfl, by simp, by simp [RepL], by simp, by simp⟩
  | m + 1, hm => by
    obtain ⟨ls, vs, h1, h2, h3, h4, h5⟩ := rows_open R hlen hel ho m (by omega)
    have hi := hel m (by omega)
    rw [List.getElem?_eq_getElem (show m < elems.length by omega)] at hi
    obtain ⟨cs, hcs, ht⟩ := Option.bind_eq_some_iff.1 hi
    obtain ⟨_, hcl, hcc⟩ := World.cells?_some hcs
    obtain ⟨pcs, hr, hR⟩ := ho cs _ ht
    refine ⟨ls ++ [pcs], vs ++ cs, by simp [h1], by rw [List.length_append, h2, hcl, Nat.succ_mul], ?_, ?_, ?_⟩
    · rw [List.flatten_append]
      exact RepL.append h3 (by simpa using hr)
    · intro j v hj
      by_cases hjl : j < vs.length
      · rw [List.getElem?_append_left hjl] at hj
        exact h4 j v hj
      · rw [List.getElem?_append_right (by omega)] at hj
        have hjc : j - vs.length < cs.length := (List.getElem?_eq_some_iff.1 hj).1
        have := hcc (j - vs.length) (by omega)
        rw [← hj, ← this]
        congr 1
        rw [addr_add, h2, show m * P.cellsOf te + (j - m * P.cellsOf te) = j by rw [h2] at hjl; omega]
    · intro x hx
      rcases List.mem_append.1 hx with hx | hx
      · exact h5 x hx
      · rw [List.mem_singleton] at hx
        rw [hx]; exact hR
mutual
theorem openS : ∀ (s : Sh) (t : TypeId) (fuel : Nat) (cs : List Value) (x : DataW H × List MemPlace), shB P t s = true → DataW.trod enc P W 0 sp held fuel t cs = some x → ∃ pcs, RepL (· < W.heap.size) W pcs cs ∧ Fit s pcs
  | .str, t, fuel, cs, x, hs, h => by
    unfold shB at hs
    split at hs
    · rename_i hu
      obtain ⟨s, rfl, rfl, hm⟩ := DataW.trod_string hu h
      exact ⟨[.val (.string s)], RepL.one (by simp [RepP]), by simp only [Fit]; exact ⟨s, rfl, hm⟩⟩
    · cases hs
  | .bool, t, fuel, cs, x, hs, h => by
    unfold shB at hs
    split at hs
    · rename_i hu
      obtain ⟨b, rfl, rfl⟩ := DataW.trod_bool hu h
      exact ⟨[.val (.bool b)], RepL.one (by simp [RepP]), by simp only [Fit]; exact ⟨b, rfl⟩⟩
    · cases hs
  | .int k, t, fuel, cs, x, hs, h => by
    unfold shB at hs
    split at hs
    · rename_i k' hu
      obtain rfl := of_decide_eq_true hs
      obtain ⟨n, rfl, rfl, hw⟩ := DataW.trod_int hu h
      exact ⟨[.val (.int k' n)], RepL.one (by simp [RepP]), by simp only [Fit]; exact ⟨n, rfl, hw⟩⟩
    · cases hs
  | .agg l, t, fuel, cs, x, hs, h => by
    unfold shB at hs
    split at hs
    · rename_i fs hu
      obtain ⟨xs, n, _, _, hl, hlen, hf⟩ := DataW.trod_struct hu h
      have := openSs l (fs.toList.map fun f => (f.offset, f.type)) 0 (P.cellsOf t) n cs hs hl fun i f hi => by
        rw [List.getElem?_map, Option.map_eq_some_iff] at hi
        obtain ⟨g, hg, rfl⟩ := hi
        rw [Array.getElem?_toList] at hg
        have h2 := hf i g hg
        have hi : i < fs.size := (Array.getElem?_eq_some_iff.1 hg).1
        rw [List.getElem?_eq_getElem (by omega)] at h2
        exact ⟨_, h2⟩
      simpa only [Fit, List.drop_zero] using this
    · cases hs
  | .sl e, t, fuel, cs, x, hs, h => by
    unfold shB at hs
    split at hs
    · rename_i te hu
      rw [Bool.and_eq_true, decide_eq_true_eq] at hs
      simp only [Fit]
      rcases DataW.trod_slice hu h with ⟨rfl, _⟩ | ⟨a, len, cap, elems, rest, n, _, rfl, _, _, hl, hm, hlen, hel, _⟩
      · refine ⟨[.sl 0 []], RepL.one ?_, [], rfl, by simp, by simp⟩
        simp only [RepP]
        exact ⟨none, 0, rfl, Nat.le_refl _, .inl rfl, .inl trivial⟩
      · obtain ⟨ls, vs, h1, h2, h3, h4, h5⟩ := rows_open (Fit e) hlen hel (fun cs x ht => openS e te n cs x hs.2 ht) len (Nat.le_refl _)
        refine ⟨[.sl ls.length ls.flatten], RepL.one ?_, ls, rfl, by omega, h5⟩
        simp only [RepP]
        refine ⟨some a, cap, by rw [h1], by omega, .inr (by simp), ?_⟩
        cases vs with
        | nil =>
          left
          have := h3.length
          exact List.eq_nil_of_length_eq_zero this.symm
        | cons v vs =>
          right
          have h0 := h4 0 v rfl
          obtain ⟨q1, q2⟩ := cell_lt h0
          obtain ⟨b, o, sp⟩ := a
          simp only [Addr.add] at q1 q2
          subst q2
          refine ⟨b, o, rfl, q1, RepC.of_vals h3 fun j v hj => ?_⟩
          have := h4 j v hj
          have e : (⟨b, o, none⟩ : Addr).add j = ⟨b, o + j, none⟩ := by
            unfold Addr.add
            split
            · subst_vars; rfl
            · rfl
          rwa [e] at this
    · cases hs
theorem openSs : ∀ (l : List Sh) (fs : List (Nat × TypeId)) (o n fuel : Nat) (cs : List Value), shsB P o n fs l = true → cs.length = n → (∀ (i : Nat) f, fs[i]? = some f → ∃ y, DataW.trod enc P W 0 sp held fuel f.2 ((cs.drop f.1).take (P.cellsOf f.2)) = some y) →
    ∃ pcs, RepL (· < W.heap.size) W pcs (cs.drop o) ∧ Fits l pcs
  | [], [], o, n, fuel, cs, hs, hn, _ => by
    simp only [shsB, decide_eq_true_eq] at hs
    refine ⟨[], ?_, by simp [Fits]⟩
    rw [List.drop_eq_nil_of_le (by omega)]
    simp [RepL]
  | s :: l, f :: fs, o, n, fuel, cs, hs, hn, hf => by
    simp only [shsB, Bool.and_eq_true, decide_eq_true_eq] at hs
    obtain ⟨⟨rfl, h2⟩, h3⟩ := hs
    obtain ⟨y, hy⟩ := hf 0 f rfl
    obtain ⟨p1, r1, f1⟩ := openS s f.2 fuel _ y h2 hy
    obtain ⟨p2, r2, f2⟩ := openSs l fs (f.1 + P.cellsOf f.2) n fuel cs h3 hn fun i g hg => hf (i + 1) g (by simpa using hg)
    refine ⟨p1 ++ p2, ?_, by simp only [Fits]; exact ⟨p1, p2, rfl, f1, f2⟩⟩
    have := RepL.append r1 r2
    rwa [← List.drop_drop, List.take_append_drop] at this
  | [], _ :: _, o, n, fuel, cs, hs, _, _ => by simp [shsB] at hs
  | _ :: _, [], o, n, fuel, cs, hs, _, _ => by simp [shsB] at hs
end
theorem openV {base : Nat} (s : Sh) (t : TypeId) (v : Value) (d : DataW H) (ps : List MemPlace) (hs : shB P t s = true) (hok : Value.okWide P W .any base t v) (h : DataW.Trod enc P W 0 sp held t v d ps) :
    ∃ x, RepP (· < W.heap.size) W x v ∧ Fit1 s x := by
  obtain ⟨fuel, hv⟩ := h
  obtain ⟨pcs, hr, hf⟩ := openS s t fuel _ _ hs hv
  cases s with
  | agg l =>
    unfold shB at hs
    split at hs
    · rename_i fs hu
      simp only [Value.okWide, hu] at hok
      obtain ⟨cs, rfl, _, _⟩ := hok
      refine ⟨.agg pcs, ?_, pcs, rfl, by simpa only [Fit] using hf⟩
      simp only [RepP]
      exact ⟨cs.toList, rfl, hr⟩
    · cases hs
  | str =>
    simp only [Fit] at hf
    obtain ⟨s, rfl, hm⟩ := hf
    unfold shB at hs
    split at hs
    · rename_i hu
      simp only [RepL, RepP] at hr
      obtain ⟨y, ys, hc, rfl, rfl⟩ := hr
      have : v = .string s := by
        cases v <;> simp [Value.cells, Value.okWide, hu, Cell.okWide, Cell.ok] at hc hok ⊢
        exact hc
      subst this
      exact ⟨.val (.string s), by simp [RepP], by simp only [Fit1, Fit]; exact ⟨s, rfl, hm⟩⟩
    · cases hs
  | bool =>
    simp only [Fit] at hf
    obtain ⟨s, rfl⟩ := hf
    unfold shB at hs
    split at hs
    · rename_i hu
      simp only [RepL, RepP] at hr
      obtain ⟨y, ys, hc, rfl, rfl⟩ := hr
      have : v = .bool s := by
        cases v <;> simp [Value.cells, Value.okWide, hu, Cell.okWide, Cell.ok] at hc hok ⊢
        exact hc
      subst this
      exact ⟨.val (.bool s), by simp [RepP], by simp only [Fit1, Fit]; exact ⟨s, rfl⟩⟩
    · cases hs
  | int k =>
    simp only [Fit] at hf
    obtain ⟨s, rfl, hm⟩ := hf
    unfold shB at hs
    split at hs
    · rename_i k' hu
      simp only [RepL, RepP] at hr
      obtain ⟨y, ys, hc, rfl, rfl⟩ := hr
      have : v = .int k s := by
        cases v <;> simp [Value.cells, Value.okWide, hu, Cell.okWide, Cell.ok] at hc hok ⊢
        exact hc
      subst this
      exact ⟨.val (.int k s), by simp [RepP], by simp only [Fit1, Fit]; exact ⟨s, rfl, hm⟩⟩
    · cases hs
  | sl e =>
    unfold shB at hs
    split at hs
    · rename_i te hu
      have hf' := hf
      simp only [Fit] at hf
      obtain ⟨ls, rfl, hm, hx⟩ := hf
      simp only [RepL] at hr
      obtain ⟨y, ys, hc, hr, rfl⟩ := hr
      have : v = y := by
        cases v <;> simp [Value.cells, Value.okWide, hu, Cell.okWide, Cell.ok] at hc hok ⊢ <;> first | exact hc | skip
      subst this
      exact ⟨_, hr, by simp only [Fit1]; exact hf'⟩
    · cases hs
def shAB (P : Program) : List TypeId → List Sh → Bool
  | [], [] => true
  | t :: ts, s :: l => shB P t s && shAB P ts l
  | _, _ => false
theorem openA {base : Nat} : ∀ (l : List Sh) (ts : List TypeId) (vs : List Value) (ds : List (DataW H)) (ps : List MemPlace), shAB P ts l = true → (∀ (j : Nat) t v, ts[j]? = some t → vs[j]? = some v → Value.okWide P W .any base t v) → DataW.TrodAll enc P W 0 sp held ts vs ds ps →
    ∃ xs, RepL (· < W.heap.size) W xs vs ∧ FitA l xs
  | [], [], [], [], ps, _, _, _ => ⟨[], by simp [RepL], by simp [FitA]⟩
  | s :: l, t :: ts, v :: vs, d :: ds, ps, hs, hok, h => by
    simp only [shAB, Bool.and_eq_true] at hs
    obtain ⟨p, q, h1, h2, rfl⟩ := h
    obtain ⟨x, rx, fx⟩ := openV s t v d p hs.1 (hok 0 t v rfl rfl) h1
    obtain ⟨xs, rxs, fxs⟩ := openA l ts vs ds q hs.2 (fun j t v h1 h2 => hok (j + 1) t v (by simpa using h1) (by simpa using h2)) h2
    refine ⟨x :: xs, ?_, by simp only [FitA]; exact ⟨x, xs, rfl, fx, fxs⟩⟩
    simp only [RepL]
    exact ⟨v, vs, rfl, rx, rxs⟩
  | [], _ :: _, _, _, _, hs, _, _ => by simp [shAB] at hs
  | _ :: _, [], _, _, _, hs, _, _ => by simp [shAB] at hs
  | [], [], _ :: _, _, _, _, _, h => h.elim
  | [], [], [], _ :: _, _, _, _, h => h.elim
  | _ :: _, _ :: _, [], _, _, _, _, h => h.elim
  | _ :: _, _ :: _, _ :: _, [], _, _, _, h => h.elim
theorem below_trodAll (hl : laidOutB P = true) {W' : World} (hb : Below W.heap.size W W') : ∀ {ts : List TypeId} {vs : List Value} {ds : List (DataW H)} {ps : List MemPlace}, (ts.all fun t => P.readableRec t && decide (t < P.types.size)) = true →
    DataW.TrodAll enc P W 0 (fun _ => true) true ts vs ds ps → DataW.TrodAll enc P W' 0 (fun b => decide (b < W.heap.size)) true ts vs ds ps
  | [], [], [], _, _, h => h
  | t :: ts, v :: vs, d :: ds, ps, ht, h => by
    have hlt := DataW.TrodAll.lt h
    obtain ⟨p, q, h1, h2, rfl⟩ := h
    rw [List.all_cons, Bool.and_eq_true, Bool.and_eq_true, decide_eq_true_eq] at ht
    exact ⟨p, q, Below.trod hl ht.1.1 ht.1.2 h1 hb fun x hx => hlt x (List.mem_append_left _ hx), below_trodAll hl hb ht.2 h2, rfl⟩
  | [], _ :: _, _, _, _, h => h.elim
  | [], [], _ :: _, _, _, h => h.elim
  | _ :: _, [], _, _, _, h => h.elim
  | _ :: _, _ :: _, [], _, _, h => h.elim
theorem law_calls {G : World → Prop} {f : FuncId} {base : Nat} {l : List Sh} {ts : List TypeId} {vs : List Value} {ds : List (DataW H)} {ps : List MemPlace} (hs : shAB P ts l = true) (law : ∀ xs, FitA l xs → Meets P G f xs (.val (.bool true)))
    (hok : ∀ (j : Nat) t v, ts[j]? = some t → vs[j]? = some v → Value.okWide P W .any base t v) (h : DataW.TrodAll enc P W 0 sp held ts vs ds ps) (hG : G W) :
    Calls P f ⟨vs⟩ W fun e W' => e = .returned (.bool true) ∧ Below W.heap.size W W' := by
  obtain ⟨xs, hr, hf⟩ := openA l ts vs ds ps hs hok h
  refine ((law xs hf).calls _ vs W (fun b hb => hb) hr hG).mono fun e W' ⟨v, he, hv, hb⟩ => ?_
  simp only [RepP] at hv
  subst hv
  exact ⟨he, hb⟩
end
def CloneC (P : Program) (F el : TypeId) (sz : Nat) : Prop := ∀ (v : Value) (n : Nat) (us : List Value) (w : World), ((v = .slice none 0 0 ∧ n = 0 ∧ us = []) ∨ ∃ ad c, v = .slice (some ad) n c ∧ us.length = n * sz ∧ (∀ j u, us[j]? = some u → w.cell? (ad.add j) = some u)) → (∀ u ∈ us, u.oneCell' = true) → n ≤ 1000000 →
  Calls P F #[v] w fun e w' => ∃ x, e = .returned x ∧ Below w.heap.size w w' ∧ w'.ownsRow w.heap.size el sz x n us
theorem clone_args {B : Nat → Prop} {w : World} {n sz : Nat} {cs : List PV} {v : Value} (hv : RepP B w (.sl n cs) v) (hl : cs.length = n * sz) : ∃ us, RepL B w cs us ∧ ((v = .slice none 0 0 ∧ n = 0 ∧ us = []) ∨ ∃ ad c, v = .slice (some ad) n c ∧ us.length = n * sz ∧ (∀ j u, us[j]? = some u → w.cell? (ad.add j) = some u)) := by
  simp only [RepP] at hv
  obtain ⟨a, c, rfl, h1, h2, h3⟩ := hv
  cases a with
  | none =>
    have hc : c = 0 := by
      rcases h2 with h | h
      · exact h
      · exact absurd rfl h
    subst hc
    have hn : n = 0 := by omega
    subst hn
    have : cs = [] := List.eq_nil_of_length_eq_zero (by rw [hl]; simp)
    subst this
    exact ⟨[], by simp [RepL], .inl ⟨rfl, rfl, rfl⟩⟩
  | some ad =>
    rcases h3 with rfl | ⟨b, o, e, hb, hr⟩
    · exact ⟨[], by simp [RepL], .inr ⟨ad, c, rfl, by simpa using hl, by simp⟩⟩
    · cases e
      obtain ⟨us, hu, hc⟩ := repC_cells hr
      exact ⟨us, hu, .inr ⟨_, c, rfl, by rw [hu.length, hl], hc⟩⟩
theorem ownsRow_zero {w : World} {b : Nat} {el : TypeId} {sz n : Nat} {x : Value} {us : List Value} (h : w.ownsRow b el sz x n us) : w.ownsRow 0 el sz x n us ∧ ∀ g, x.ownBlock = some g → b ≤ g ∧ g < w.heap.size := by
  refine ⟨⟨h.1, ?_⟩, h.lt⟩
  rcases h.2 with h | ⟨g, cap, cur, h1, _, h2⟩
  · exact .inl h
  · exact .inr ⟨g, cap, cur, h1, Nat.zero_le _, h2⟩
theorem clone_r {P : Program} {G : World → Prop} {F el : TypeId} {sz : Nat} (he : Enters P F) (h : CloneC P F el sz) {n : Nat} {cs : List PV} (hl : cs.length = n * sz) (hf : cs.all leafP = true) (hn : n ≤ 1000000) : MeetsR P G F [.sl n cs] ⟨el, sz, n, cs, false⟩ := by
  refine ⟨he, fun B vs w hB hr hG => ?_⟩
  simp only [RepL] at hr
  obtain ⟨v, _, rfl, hv, rfl⟩ := hr
  obtain ⟨us, hu, hc⟩ := clone_args hv hl
  refine (h v n us w hc (leaf_one hu hf) hn).mono fun e w' ⟨x, h1, h2, h3⟩ => ?_
  obtain ⟨h4, h5⟩ := ownsRow_zero h3
  refine ⟨x, us, h1, h2, h4, RepL.mono (fun b hb => ?_) _ _ hu, fun g hg => (h5 g hg).1⟩
  have hb1 := hB b hb
  refine ⟨⟨.inl hb, Nat.lt_of_lt_of_le hb1 h2.size, fun e => ?_⟩, h2.block _ hb1⟩
  have := (h5 b e).1
  omega
theorem clone_m {P : Program} {G : World → Prop} {F el : TypeId} {sz : Nat} (he : Enters P F) (h : CloneC P F el sz) {n : Nat} {cs : List PV} (hl : cs.length = n * sz) (hf : cs.all leafP = true) (hn : n ≤ 1000000) : Meets P G F [.sl n cs] (.sl n cs) := by
  refine ⟨he, fun B vs w hB hr hG => ?_⟩
  simp only [RepL] at hr
  obtain ⟨v, _, rfl, hv, rfl⟩ := hr
  obtain ⟨us, hu, hc⟩ := clone_args hv hl
  refine (h v n us w hc (leaf_one hu hf) hn).mono fun e w' ⟨x, h1, h2, h3⟩ => ?_
  obtain ⟨h4, h5⟩ := ownsRow_zero h3
  refine ⟨x, h1, ownsRow_slice h4 (RepL.mono (fun b hb => ?_) _ _ hu) fun g hg => ?_, h2⟩
  · have hb1 := hB b hb
    exact ⟨⟨.inl hb, Nat.lt_of_lt_of_le hb1 h2.size⟩, h2.block _ hb1⟩
  · exact ⟨.inr (h5 g hg).1, (h5 g hg).2⟩
end Go.Sx
namespace Go.Proofs.YtnlabeglboomlaaGreatDoor.S
open Go Go.RowKit Go.Sx Go.Shelf
end Go.Proofs.YtnlabeglboomlaaGreatDoor.S
namespace Gb
open Go Go.RowKit Go.Sx
def Wt.s (w : Wt) : Prop := w.nm.length < 20000 ∧ w.m.length ≤ 45 ∧ w.c.lt 46 ∧ w.fr.length ≤ 45 ∧ w.tt.length ≤ 45
theorem Wt.s.b {w : Wt} (h : w.s) : w.b := by
  obtain ⟨h1, h2, ⟨h3, h4, h5⟩, h6, h7⟩ := h
  exact ⟨h1, h2, ⟨by omega, by omega, by omega⟩, by omega, by omega⟩
def aftT (x : Rat) (w : Wt) : Rat := if x < ratOf w.tt then (if ratOf w.fr < x then ratOf w.m * (x - ratOf w.fr) / (ratOf w.tt - ratOf w.fr) else 0) else ratOf w.m
def aftS (x : Rat) (l : List Wt) : Rat := (l.map (aftT x)).foldl (· + ·) 0
theorem aftS_snoc (x : Rat) (l : List Wt) (w : Wt) : aftS x (l ++ [w]) = aftS x l + aftT x w := by unfold aftS; simp
def aftP (l : List Wt) (x : List UInt8) : PV := if check24 l = 0 then (if isRat x then .tup [rtP (aftS (ratOf x) l), iP 0] else .tup [strP [], iP 1]) else .tup [strP [], iP (check24 l)]
theorem aftT_sz {x : Rat} {w : Wt} (hx : Sz 6 x) (h1 : Sz 6 (ratOf w.m)) (h2 : Sz 6 (ratOf w.fr)) (h3 : Sz 6 (ratOf w.tt)) : Sz 32 (aftT x w) := by
  unfold aftT
  split
  · split
    · exact ((h1.mulT (hx.subT h2)).divT (h3.subT h2) (by omega)).mono (by omega)
    · exact Sz0 _ (by omega)
  · exact h1.mono (by omega)
theorem aftS_sz {x : Rat} (hx : Sz 6 x) : ∀ (n : Nat) (l : List Wt), l.length = n → (∀ w ∈ l, Sz 6 (ratOf w.m) ∧ Sz 6 (ratOf w.fr) ∧ Sz 6 (ratOf w.tt)) → Sz (33 * n + 1) (aftS x l)
  | 0, l, h, _ => by rw [List.length_eq_zero_iff.1 h]; exact Sz0 _ (by omega)
  | n + 1, l, h, hb => by
    rcases List.eq_nil_or_concat l with rfl | ⟨a, c, rfl⟩
    · cases h
    · rw [List.concat_eq_append] at *
      rw [aftS_snoc]
      have h1 := aftS_sz hx n a (by simp at h; omega) (fun w hw => hb w (List.mem_append_left _ hw))
      obtain ⟨h2, h3, h4⟩ := hb c (by simp)
      exact (h1.addT (aftT_sz hx h2 h3 h4)).mono (by omega)
theorem s_sz {w : Wt} (h : w.s) (hf : faultI w = 0) : Sz 6 (ratOf w.m) ∧ Sz 6 (ratOf w.fr) ∧ Sz 6 (ratOf w.tt) := by
  obtain ⟨g1, g2, g3, g4, g5, _⟩ := fault_ok hf
  obtain ⟨b1, b2, b3, b4, b5⟩ := h
  exact ⟨(Sz.text g2).mono (by omega), (Sz.text g4).mono (by omega), (Sz.text g5).mono (by omega)⟩
theorem sub_ne {a b : Rat} (h : a < b) : b - a ≠ 0 := by grind
end Gb
namespace Go.Proofs.YtnlabeglboomlaaGreatDoor.S
open Go Go.Sx Go.RowKit Gb Go.Shelf
set_option maxRecDepth 100000 in
set_option maxHeartbeats 8000000 in
theorem laft_n (l : List Wt) (x : List UInt8) (hb : ∀ w ∈ l, w.s) (hx : x.length ≤ 45) : Meets Tryz.prog Gd 18 [.sl l.length (recs wtC l), strP x] (aftP l x) := by
  refine meets_of_vc (Y := {}) (N := 72) (rs := [.tmp 4, .tmp 5]) mix tk gd Tryz.func18 rfl (by kernel_rfl) rfl rfl (by simp) (by kernel_rfl) ?_
  have C := lcheck_n l (fun w hw => (hb w hw).b.lt)
  unfold aftP
  by_cases h0 : check24 l = 0
  · obtain ⟨hl, hf⟩ := check24_ok h0
    rw [h0] at C
    rw [if_pos h0]
    simp (maxSteps := 10000000) only [↓sx, sx, ↓ty, ↓reduceIte, Nat.reduceEqDiff, Nat.reduceBeqDiff, Nat.reduceAdd, Nat.reduceLeDiff, Nat.reduceLT, Nat.reduceMul, Nat.reduceSub, Int.reduceEq, Int.reduceBNe, Int.reduceBEq, ne_eq, not_false_eq_true, pc, ls, bs, and_true, true_and, and_self, Nat.reduceAdd, Nat.le_refl, leafP]
    refine CallT.mk (t := ⟨⟩) C ?_
    simp (maxSteps := 10000000) only [↓sx, sx, ↓ty, ↓reduceIte, Nat.reduceEqDiff, Nat.reduceBeqDiff, Nat.reduceAdd, Nat.reduceLeDiff, Nat.reduceLT, Nat.reduceMul, Nat.reduceSub, Int.reduceEq, Int.reduceBNe, Int.reduceBEq, ne_eq, not_false_eq_true, pc, ls, bs, and_true, true_and, and_self, Nat.reduceAdd, Nat.le_refl, leafP]
    refine CallT.mk (t := ⟨⟩) (rvalid_n x (by omega)) ?_
    cases hr : isRat x with
    | false => simp (maxSteps := 10000000) only [↓sx, sx, ↓ty, ↓reduceIte, Nat.reduceEqDiff, Nat.reduceBeqDiff, Nat.reduceAdd, Nat.reduceLeDiff, Nat.reduceLT, Nat.reduceMul, Nat.reduceSub, Int.reduceEq, Int.reduceBNe, Int.reduceBEq, ne_eq, not_false_eq_true, pc, ls, bs, and_true, true_and, and_self, Nat.reduceAdd, Nat.le_refl, leafP]
    | true =>
      have zx : Sz 6 (ratOf x) := (Sz.text hr).mono (by omega)
      rw [if_pos rfl, ← rtP_of hr]
      generalize ratOf x = X at *
      simp (maxSteps := 10000000) only [↓sx, sx, ↓ty, ↓reduceIte, Nat.reduceEqDiff, Nat.reduceBeqDiff, Nat.reduceAdd, Nat.reduceLeDiff, Nat.reduceLT, Nat.reduceMul, Nat.reduceSub, Int.reduceEq, Int.reduceBNe, Int.reduceBEq, ne_eq, not_false_eq_true, pc, ls, bs, and_true, true_and, and_self, Nat.reduceAdd, Nat.le_refl, leafP]
      refine loopK_of (fun i : Nat => [(0, .p (.sl l.length (recs wtC l))), (1, .p (rtP X)), (4, .p (strP [])), (5, .p (iP 0)), (7, .p (rtP (aftS X (l.take i)))), (19, .p (.val (.int .i64 (l.length : Nat)))), (20, .p (.val (.int .i64 (i : Nat))))]) (fun _ => []) (fun _ => []) (fun i => i ≤ l.length) (fun i => l.length - i) 0 (Nat.zero_le _) ?_ ?_
      · simp (maxSteps := 10000000) only [isE_nil, is_cons, bo_p, bo_box, bo_orow, bo_rowp, any_cons', all_cons', all_nil', Bool.true_or, Bool.or_true, ↓sx, sx, ↓reduceIte, Nat.reduceEqDiff, Nat.reduceBeqDiff]
        rw [show aftS X [] = 0 from rfl, c0.1]
        first | trivial | rfl | exact ⟨rfl, rfl⟩ | exact ⟨rfl, rfl, rfl⟩ | exact ⟨rfl, rfl, rfl, rfl⟩ | exact ⟨rfl, rfl, rfl, rfl, rfl⟩
      · intro i hi
        by_cases hil : i < l.length
        · have e1 : decide ((i : Int) < ((l.length : Nat) : Int)) = true := decide_eq_true (by omega)
          obtain ⟨w, hw⟩ := getA hil
          have hm : w ∈ l := List.mem_of_getElem? hw
          obtain ⟨g1, g2, g3, g4, g5, g6, g7, g8⟩ := fault_ok (hf w hm)
          obtain ⟨z1, z2, z3⟩ := s_sz (hb w hm) (hf w hm)
          have hd := wt_drop l i w hw
          have hlen : (recs wtC l).length = l.length * 7 := recs_len wtC_len l
          have tl : (l.take i).length = i := by rw [List.length_take]; omega
          have zA := aftS_sz zx i (l.take i) tl (fun w hw => by have hw := List.mem_of_mem_take hw; exact s_sz (hb w hw) (hf w hw))
          have eA := aftS_snoc X (l.take i) w
          rw [← take_snocA hw] at eA
          have L1 := lless_q X (ratOf w.tt) (zx.mono (by omega)) (z3.mono (by omega))
          have L2 := lless_q (ratOf w.fr) X (z2.mono (by omega)) (zx.mono (by omega))
          rw [rtP_of g5] at L1
          rw [rtP_of g4] at L2
          unfold aftT at eA
          simp (maxSteps := 10000000) only [↓sx, sx, ↓ty, ↓reduceIte, Nat.reduceEqDiff, Nat.reduceBeqDiff, Nat.reduceAdd, Nat.reduceLeDiff, Nat.reduceLT, Nat.reduceMul, Nat.reduceSub, Int.reduceEq, Int.reduceBNe, Int.reduceBEq, ne_eq, not_false_eq_true, pc, ls, bs, and_true, true_and, and_self, Nat.reduceAdd, Nat.le_refl, leafP, e1, hd, hlen]
          refine ⟨⟨by omega, hil, by omega⟩, ?_⟩
          refine CallT.mk (t := ⟨⟩) L1 ?_
          by_cases c1 : X < ratOf w.tt
          · rw [decide_eq_true c1]
            rw [if_pos c1] at eA
            simp (maxSteps := 10000000) only [↓sx, sx, ↓ty, ↓reduceIte, Nat.reduceEqDiff, Nat.reduceBeqDiff, Nat.reduceAdd, Nat.reduceLeDiff, Nat.reduceLT, Nat.reduceMul, Nat.reduceSub, Int.reduceEq, Int.reduceBNe, Int.reduceBEq, ne_eq, not_false_eq_true, pc, ls, bs, and_true, true_and, and_self, Nat.reduceAdd, Nat.le_refl, leafP]
            refine CallT.mk (t := ⟨⟩) L2 ?_
            by_cases c2 : ratOf w.fr < X
            · rw [decide_eq_true c2]
              rw [if_pos c2] at eA
              have S1 := lsub_q X (ratOf w.fr) (zx.mono (by omega)) (z2.mono (by omega))
              have M1 := lmul_q (ratOf w.m) (X - ratOf w.fr) (z1.mono (by omega)) ((zx.subT z2).mono (by omega))
              have S2 := lsub_q (ratOf w.tt) (ratOf w.fr) (z3.mono (by omega)) (z2.mono (by omega))
              have D1 := ldiv_q (ratOf w.m * (X - ratOf w.fr)) (ratOf w.tt - ratOf w.fr) ((z1.mulT (zx.subT z2)).mono (by omega)) ((z3.subT z2).mono (by omega)) (sub_ne g7)
              have A1 := ladd_q (aftS X (l.take i)) (ratOf w.m * (X - ratOf w.fr) / (ratOf w.tt - ratOf w.fr)) (zA.mono (by omega)) (((z1.mulT (zx.subT z2)).divT (z3.subT z2) (by omega)).mono (by omega))
              rw [← eA] at A1
              rw [rtP_of g4] at S1 S2
              rw [rtP_of g2] at M1
              rw [rtP_of g5] at S2
              clear eA
              generalize ratOf w.m * (X - ratOf w.fr) / (ratOf w.tt - ratOf w.fr) = q1 at *
              generalize ratOf w.m * (X - ratOf w.fr) = q2 at *
              generalize X - ratOf w.fr = q3 at *
              generalize ratOf w.tt - ratOf w.fr = q4 at *
              simp (maxSteps := 10000000) only [↓sx, sx, ↓ty, ↓reduceIte, Nat.reduceEqDiff, Nat.reduceBeqDiff, Nat.reduceAdd, Nat.reduceLeDiff, Nat.reduceLT, Nat.reduceMul, Nat.reduceSub, Int.reduceEq, Int.reduceBNe, Int.reduceBEq, ne_eq, not_false_eq_true, pc, ls, bs, and_true, true_and, and_self, Nat.reduceAdd, Nat.le_refl, leafP]
              refine CallT.mk (t := ⟨⟩) S1 ?_
              simp (maxSteps := 10000000) only [↓sx, sx, ↓ty, ↓reduceIte, Nat.reduceEqDiff, Nat.reduceBeqDiff, Nat.reduceAdd, Nat.reduceLeDiff, Nat.reduceLT, Nat.reduceMul, Nat.reduceSub, Int.reduceEq, Int.reduceBNe, Int.reduceBEq, ne_eq, not_false_eq_true, pc, ls, bs, and_true, true_and, and_self, Nat.reduceAdd, Nat.le_refl, leafP]
              refine CallT.mk (t := ⟨⟩) M1 ?_
              simp (maxSteps := 10000000) only [↓sx, sx, ↓ty, ↓reduceIte, Nat.reduceEqDiff, Nat.reduceBeqDiff, Nat.reduceAdd, Nat.reduceLeDiff, Nat.reduceLT, Nat.reduceMul, Nat.reduceSub, Int.reduceEq, Int.reduceBNe, Int.reduceBEq, ne_eq, not_false_eq_true, pc, ls, bs, and_true, true_and, and_self, Nat.reduceAdd, Nat.le_refl, leafP]
              refine CallT.mk (t := ⟨⟩) S2 ?_
              simp (maxSteps := 10000000) only [↓sx, sx, ↓ty, ↓reduceIte, Nat.reduceEqDiff, Nat.reduceBeqDiff, Nat.reduceAdd, Nat.reduceLeDiff, Nat.reduceLT, Nat.reduceMul, Nat.reduceSub, Int.reduceEq, Int.reduceBNe, Int.reduceBEq, ne_eq, not_false_eq_true, pc, ls, bs, and_true, true_and, and_self, Nat.reduceAdd, Nat.le_refl, leafP]
              refine CallT.mk (t := ⟨⟩) D1 ?_
              simp (maxSteps := 10000000) only [↓sx, sx, ↓ty, ↓reduceIte, Nat.reduceEqDiff, Nat.reduceBeqDiff, Nat.reduceAdd, Nat.reduceLeDiff, Nat.reduceLT, Nat.reduceMul, Nat.reduceSub, Int.reduceEq, Int.reduceBNe, Int.reduceBEq, ne_eq, not_false_eq_true, pc, ls, bs, and_true, true_and, and_self, Nat.reduceAdd, Nat.le_refl, leafP]
              refine CallT.mk (t := ⟨⟩) A1 ?_
              simp (maxSteps := 10000000) only [↓sx, sx, ↓ty, ↓reduceIte, Nat.reduceEqDiff, Nat.reduceBeqDiff, Nat.reduceAdd, Nat.reduceLeDiff, Nat.reduceLT, Nat.reduceMul, Nat.reduceSub, Int.reduceEq, Int.reduceBNe, Int.reduceBEq, ne_eq, not_false_eq_true, pc, ls, bs, and_true, true_and, and_self, Nat.reduceAdd, Nat.le_refl, leafP]
              refine NextK.mk (i + 1) (by omega) (by omega) ?_
              simp (maxSteps := 10000000) only [isE_nil, is_cons, bo_p, bo_box, bo_orow, bo_rowp, any_cons', all_cons', all_nil', Bool.true_or, Bool.or_true, ↓sx, sx, ↓reduceIte, Nat.reduceEqDiff, Nat.reduceBeqDiff]
              rw [i64_id (by omega) (by omega)]
              first | trivial | rfl | exact ⟨rfl, rfl⟩ | exact ⟨rfl, rfl, rfl⟩ | exact ⟨rfl, rfl, rfl, rfl⟩ | exact ⟨rfl, rfl, rfl, rfl, rfl⟩
            · rw [decide_eq_false c2]
              rw [if_neg c2, Rat.add_zero] at eA
              simp (maxSteps := 10000000) only [↓sx, sx, ↓ty, ↓reduceIte, Nat.reduceEqDiff, Nat.reduceBeqDiff, Nat.reduceAdd, Nat.reduceLeDiff, Nat.reduceLT, Nat.reduceMul, Nat.reduceSub, Int.reduceEq, Int.reduceBNe, Int.reduceBEq, ne_eq, not_false_eq_true, pc, ls, bs, and_true, true_and, and_self, Nat.reduceAdd, Nat.le_refl, leafP]
              refine NextK.mk (i + 1) (by omega) (by omega) ?_
              simp (maxSteps := 10000000) only [isE_nil, is_cons, bo_p, bo_box, bo_orow, bo_rowp, any_cons', all_cons', all_nil', Bool.true_or, Bool.or_true, ↓sx, sx, ↓reduceIte, Nat.reduceEqDiff, Nat.reduceBeqDiff]
              rw [i64_id (by omega) (by omega), eA]
              first | trivial | rfl | exact ⟨rfl, rfl⟩ | exact ⟨rfl, rfl, rfl⟩ | exact ⟨rfl, rfl, rfl, rfl⟩ | exact ⟨rfl, rfl, rfl, rfl, rfl⟩
          · rw [decide_eq_false c1]
            rw [if_neg c1] at eA
            have A1 := ladd_q (aftS X (l.take i)) (ratOf w.m) (zA.mono (by omega)) (z1.mono (by omega))
            rw [← eA, rtP_of g2] at A1
            simp (maxSteps := 10000000) only [↓sx, sx, ↓ty, ↓reduceIte, Nat.reduceEqDiff, Nat.reduceBeqDiff, Nat.reduceAdd, Nat.reduceLeDiff, Nat.reduceLT, Nat.reduceMul, Nat.reduceSub, Int.reduceEq, Int.reduceBNe, Int.reduceBEq, ne_eq, not_false_eq_true, pc, ls, bs, and_true, true_and, and_self, Nat.reduceAdd, Nat.le_refl, leafP]
            refine CallT.mk (t := ⟨⟩) A1 ?_
            simp (maxSteps := 10000000) only [↓sx, sx, ↓ty, ↓reduceIte, Nat.reduceEqDiff, Nat.reduceBeqDiff, Nat.reduceAdd, Nat.reduceLeDiff, Nat.reduceLT, Nat.reduceMul, Nat.reduceSub, Int.reduceEq, Int.reduceBNe, Int.reduceBEq, ne_eq, not_false_eq_true, pc, ls, bs, and_true, true_and, and_self, Nat.reduceAdd, Nat.le_refl, leafP]
            refine NextK.mk (i + 1) (by omega) (by omega) ?_
            simp (maxSteps := 10000000) only [isE_nil, is_cons, bo_p, bo_box, bo_orow, bo_rowp, any_cons', all_cons', all_nil', Bool.true_or, Bool.or_true, ↓sx, sx, ↓reduceIte, Nat.reduceEqDiff, Nat.reduceBeqDiff]
            rw [i64_id (by omega) (by omega)]
            first | trivial | rfl | exact ⟨rfl, rfl⟩ | exact ⟨rfl, rfl, rfl⟩ | exact ⟨rfl, rfl, rfl, rfl⟩ | exact ⟨rfl, rfl, rfl, rfl, rfl⟩
        · obtain rfl : i = l.length := by omega
          have e1 : decide (((l.length : Nat) : Int) < ((l.length : Nat) : Int)) = false := decide_eq_false (by omega)
          rw [List.take_length]
          simp (maxSteps := 10000000) only [↓sx, sx, ↓ty, ↓reduceIte, Nat.reduceEqDiff, Nat.reduceBeqDiff, Nat.reduceAdd, Nat.reduceLeDiff, Nat.reduceLT, Nat.reduceMul, Nat.reduceSub, Int.reduceEq, Int.reduceBNe, Int.reduceBEq, ne_eq, not_false_eq_true, pc, ls, bs, and_true, true_and, and_self, Nat.reduceAdd, Nat.le_refl, leafP, e1]
  · have d0 : (check24 l != 0) = true := by simp [h0]
    rw [if_neg h0]
    simp (maxSteps := 10000000) only [↓sx, sx, ↓ty, ↓reduceIte, Nat.reduceEqDiff, Nat.reduceBeqDiff, Nat.reduceAdd, Nat.reduceLeDiff, Nat.reduceLT, Nat.reduceMul, Nat.reduceSub, Int.reduceEq, Int.reduceBNe, Int.reduceBEq, ne_eq, not_false_eq_true, pc, ls, bs, and_true, true_and, and_self, Nat.reduceAdd, Nat.le_refl, leafP]
    refine CallT.mk (t := ⟨⟩) C ?_
    simp (maxSteps := 10000000) only [↓sx, sx, ↓ty, ↓reduceIte, Nat.reduceEqDiff, Nat.reduceBeqDiff, Nat.reduceAdd, Nat.reduceLeDiff, Nat.reduceLT, Nat.reduceMul, Nat.reduceSub, Int.reduceEq, Int.reduceBNe, Int.reduceBEq, ne_eq, not_false_eq_true, pc, ls, bs, and_true, true_and, and_self, Nat.reduceAdd, Nat.le_refl, leafP, d0]
set_option maxRecDepth 100000 in
set_option maxHeartbeats 4000000 in
theorem cloneW_c : CloneC Tryz.prog 14 34 7 := by
  intro v n us w hv h1 hn
  obtain ⟨ti, hti, hs, hy⟩ : ∃ ti, T 34 = some ti ∧ ti.size = 7 ∧ ti.bytes = 112 := ⟨_, rfl, rfl, rfl⟩
  obtain ⟨ie, zv, i1, i2, i3, i4⟩ := (tk.ok _ _ hti).info
  obtain ⟨ie', i5, i6⟩ := (tk.ok _ _ hti).bytes
  rw [i1] at i5; cases i5
  have hzl := (i4 (fun _ => True) w).length
  rw [(tk.ok _ _ hti).zlen, Array.length_toList, hs] at hzl
  rw [hs] at i2
  rw [hy] at i6
  have hu := Tryz.underlying22
  rcases hv with ⟨rfl, rfl, rfl⟩ | ⟨ad, c, rfl, hl, hc⟩
  · go_enter Tryz.func14, Tryz.ntmps14
    go_wp2
    rw [Lib.run_eql_slice_nil (h := hu)]
    go_wp2
    go_ret
    exact ⟨_, rfl, Below.refl _ _, World.ownsRow_nil _ _ _ _⟩
  · go_enter Tryz.func14, Tryz.ntmps14
    go_wp2
    rw [Lib.run_eql_slice_nil (h := hu)]
    have hcell : ∀ j u, us[j]? = some u → (w.alloc (.cells #[] 34)).cell? (ad.add j) = some u := by
      intro j u h
      have h0 := hc j u h
      rwa [World.cell?_alloc_lt (h := (cell_lt h0).1)]
    go_wp2_with (at_builtin; go_loud (refine wpList_append_own _ rfl _ _ 22 rfl w.heap.size 34 ie zv 7 112 hu i1 i3 i2 i6 hzl (by decide) _ 0 [] rfl (World.ownsRow_made w #[] 0 (Nat.le_refl _) (by simp [maxLen]) (by simp)) ad n c us rfl hl hcell h1 (by simp only [maxLen]; omega) (by omega) (by simp) ?_))
    intro v' w' ho hg _
    go_wp2
    go_ret
    refine ⟨v', rfl, below_grownBy (grownBy_trans (World.grownBy_alloc w _ none) hg fun k hk => ?_), ho⟩
    simp [Value.ownBlock] at hk
    omega
theorem cloneW_n (l : List Wt) (hn : l.length ≤ 1000000) : Meets Tryz.prog Gd 14 [.sl l.length (recs wtC l)] (.sl l.length (recs wtC l)) :=
  clone_m (enters_of Tryz.func14 (by kernel_rfl) rfl) cloneW_c (recs_len wtC_len l) (recs_leaf wtC_leaf l) hn
theorem cloneW_r (l : List Wt) (hn : l.length ≤ 1000000) : MeetsR Tryz.prog Gd 14 [.sl l.length (recs wtC l)] ⟨34, 7, l.length, recs wtC l, false⟩ :=
  clone_r (enters_of Tryz.func14 (by kernel_rfl) rfl) cloneW_c (recs_len wtC_len l) (recs_leaf wtC_leaf l) hn
end Go.Proofs.YtnlabeglboomlaaGreatDoor.S
namespace Gb
open Go Go.RowKit Go.Sx
def faultR (l : List Wt) (w : Wt) : Int := if faultI w = 0 then (if l.any (fun x => x.nm == w.nm) then 6 else 0) else faultI w
theorem names_any (l : List Wt) (n : List UInt8) : (namesR l).contains n = l.any (fun x => x.nm == n) := by
  unfold namesR
  induction l with
  | nil => rfl
  | cons a r ih =>
    rw [List.map_cons, List.reverse_cons, List.any_cons]
    have : ((r.map (·.nm)).reverse ++ [a.nm]).contains n = ((r.map (·.nm)).reverse.contains n || n == a.nm) := by
      rw [List.contains_eq_any_beq, List.contains_eq_any_beq, List.any_append]; simp
    rw [this, ih, Bool.or_comm]
    congr 1
    rw [Bool.eq_iff_iff, beq_iff_eq, beq_iff_eq, eq_comm]
theorem mid_eq {a b c : Rat} : (c - (a + b) * (1 / 2)).num.sign = 0 ↔ a + b = 2 * c := by
  constructor
  · intro h
    have : c - (a + b) * (1 / 2) = 0 := Rat.num_eq_zero.1 (Int.sign_eq_zero_iff_zero.1 h)
    grind
  · intro h
    have : c - (a + b) * (1 / 2) = 0 := by grind
    rw [this]; rfl
theorem any_take_snoc {l : List Wt} {i : Nat} {x : Wt} (h : l[i]? = some x) (n : List UInt8) : (l.take (i + 1)).any (fun y => y.nm == n) = ((l.take i).any (fun y => y.nm == n) || x.nm == n) := by
  rw [take_snocA h, List.any_append]; simp
end Gb
namespace Go.Proofs.YtnlabeglboomlaaGreatDoor.S
open Go Go.Sx Go.RowKit Gb Go.Shelf
set_option maxRecDepth 100000 in
set_option maxHeartbeats 8000000 in
theorem faultR_n (l : List Wt) (w : Wt) (h : w.lt 20000) (hl : l.length ≤ 1000000) : Meets Tryz.prog Gd 62 [.sl l.length (recs wtC l), wtP w] (iP (faultR l w)) := by
  refine meets_of_vc (Y := {}) (N := 77) (rs := [.tmp 4]) mix tk gd Tryz.func62 rfl (by kernel_rfl) rfl rfl (by simp) (by kernel_rfl) ?_
  obtain ⟨q1, q2, q3, q4, q5⟩ := h
  have N := named22_n w.nm (by omega)
  have F := from3_n gd w.m (by omega)
  rw [show (if isRat w.m = true then ratOf w.m else 0) = rd w.m from rfl] at F
  have V := vec16_n w.c ⟨by have := q3.1; omega, by have := q3.2.1; omega, by have := q3.2.2; omega⟩
  have B := bothq_n w.fr w.tt (by omega) (by omega)
  have z1 : Sz 2300 (rd w.m) := (rd_sz (k := 2223) (by omega)).mono (by omega)
  have z2 : Sz 2300 (rd w.fr) := (rd_sz (k := 2223) (by omega)).mono (by omega)
  have z3 : Sz 2300 (rd w.tt) := (rd_sz (k := 2223) (by omega)).mono (by omega)
  have z4 : Sz 2300 (rd w.c.x) := (rd_sz (k := 2223) (by have := q3.1; omega)).mono (by omega)
  have hlen : (recs wtC l).length = l.length * 7 := recs_len wtC_len l
  unfold wtP wtC
  simp (maxSteps := 10000000) only [↓sx, sx, ↓ty, ↓reduceIte, Nat.reduceEqDiff, Nat.reduceBeqDiff, Nat.reduceAdd, Nat.reduceLeDiff, Nat.reduceLT, Nat.reduceMul, Nat.reduceSub, Int.reduceEq, Int.reduceBNe, Int.reduceBEq, ne_eq, not_false_eq_true, pc, ls, bs, and_true, true_and, and_self, Nat.reduceAdd, Nat.le_refl, leafP, pv, pj]
  refine CallT.mk (t := ⟨⟩) N ?_
  cases hn : namB w.nm with
  | false =>
    have hf : faultR l w = 4 := by unfold faultR faultI; rw [hn]; rfl
    rw [hf]
    simp (maxSteps := 10000000) only [↓sx, sx, ↓ty, ↓reduceIte, Nat.reduceEqDiff, Nat.reduceBeqDiff, Nat.reduceAdd, Nat.reduceLeDiff, Nat.reduceLT, Nat.reduceMul, Nat.reduceSub, Int.reduceEq, Int.reduceBNe, Int.reduceBEq, ne_eq, not_false_eq_true, pc, ls, bs, and_true, true_and, and_self, Nat.reduceAdd, Nat.le_refl, leafP]
  | true =>
    simp (maxSteps := 10000000) only [↓sx, sx, ↓ty, ↓reduceIte, Nat.reduceEqDiff, Nat.reduceBeqDiff, Nat.reduceAdd, Nat.reduceLeDiff, Nat.reduceLT, Nat.reduceMul, Nat.reduceSub, Int.reduceEq, Int.reduceBNe, Int.reduceBEq, ne_eq, not_false_eq_true, pc, ls, bs, and_true, true_and, and_self, Nat.reduceAdd, Nat.le_refl, leafP, pv, pj]
    refine CallT.mk (t := ⟨⟩) F ?_
    simp (maxSteps := 10000000) only [↓sx, sx, ↓ty, ↓reduceIte, Nat.reduceEqDiff, Nat.reduceBeqDiff, Nat.reduceAdd, Nat.reduceLeDiff, Nat.reduceLT, Nat.reduceMul, Nat.reduceSub, Int.reduceEq, Int.reduceBNe, Int.reduceBEq, ne_eq, not_false_eq_true, pc, ls, bs, and_true, true_and, and_self, Nat.reduceAdd, Nat.le_refl, leafP, pv, pj]
    refine CallT.mk (t := ⟨⟩) V ?_
    simp (maxSteps := 10000000) only [↓sx, sx, ↓ty, ↓reduceIte, Nat.reduceEqDiff, Nat.reduceBeqDiff, Nat.reduceAdd, Nat.reduceLeDiff, Nat.reduceLT, Nat.reduceMul, Nat.reduceSub, Int.reduceEq, Int.reduceBNe, Int.reduceBEq, ne_eq, not_false_eq_true, pc, ls, bs, and_true, true_and, and_self, Nat.reduceAdd, Nat.le_refl, leafP, pv, pj, pz]
    refine CallT.mk (t := ⟨⟩) B ?_
    cases hr : w.rat with
    | false =>
      have hf : faultR l w = 1 := by unfold faultR faultI; rw [hn, hr]; rfl
      rw [hf]
      unfold Wt.rat at hr
      cases r1 : isRat w.m with
      | false => simp (maxSteps := 10000000) only [↓sx, sx, ↓ty, ↓reduceIte, Nat.reduceEqDiff, Nat.reduceBeqDiff, Nat.reduceAdd, Nat.reduceLeDiff, Nat.reduceLT, Nat.reduceMul, Nat.reduceSub, Int.reduceEq, Int.reduceBNe, Int.reduceBEq, ne_eq, not_false_eq_true, pc, ls, bs, and_true, true_and, and_self, Nat.reduceAdd, Nat.le_refl, leafP, pv, pj, pz]
      | true =>
        cases r2 : w.c.rat with
        | false => simp (maxSteps := 10000000) only [↓sx, sx, ↓ty, ↓reduceIte, Nat.reduceEqDiff, Nat.reduceBeqDiff, Nat.reduceAdd, Nat.reduceLeDiff, Nat.reduceLT, Nat.reduceMul, Nat.reduceSub, Int.reduceEq, Int.reduceBNe, Int.reduceBEq, ne_eq, not_false_eq_true, pc, ls, bs, and_true, true_and, and_self, Nat.reduceAdd, Nat.le_refl, leafP, pv, pj, pz]
        | true =>
          rw [r1, r2] at hr
          simp only [Bool.true_and] at hr
          rw [hr]
          simp only [Bool.false_eq_true, if_false]
          simp (maxSteps := 10000000) only [↓sx, sx, ↓ty, ↓reduceIte, Nat.reduceEqDiff, Nat.reduceBeqDiff, Nat.reduceAdd, Nat.reduceLeDiff, Nat.reduceLT, Nat.reduceMul, Nat.reduceSub, Int.reduceEq, Int.reduceBNe, Int.reduceBEq, ne_eq, not_false_eq_true, pc, ls, bs, and_true, true_and, and_self, Nat.reduceAdd, Nat.le_refl, leafP, pv, pj, pz]
    | true =>
      have hr2 := hr
      unfold Wt.rat at hr2
      simp only [Bool.and_eq_true] at hr2
      obtain ⟨⟨⟨r1, r2⟩, r3⟩, r4⟩ := hr2
      have rx := (vt_rat r2).1
      rw [r1, r2, r3, r4]
      simp only [Bool.and_self, if_true]
      have S := sign3_n gd (rd w.m)
      have L := less3_q (rd w.fr) (rd w.tt) (z2.mono (by omega)) (z3.mono (by omega))
      have M := mid6_n (rd w.fr) (rd w.tt) (z2.mono (by omega)) (z3.mono (by omega))
      have C := cmp3_n gd (rd w.c.x) ((rd w.fr + rd w.tt) * (1 / 2)) (z4.mono (by omega)) (((z2.addT z3).mulT c12.2).mono (by omega))
      have sg := sign_lt0 (rd w.m)
      have me := mid_eq (a := rd w.fr) (b := rd w.tt) (c := rd w.c.x)
      have hfi : faultI w = if rd w.m < 0 ∨ ¬ rd w.fr < rd w.tt then 2 else if rd w.fr + rd w.tt = 2 * rd w.c.x then 0 else 10 := by
        unfold faultI
        rw [hn, hr, if_pos rfl, if_pos rfl, rdr r1, rdr r3, rdr r4, rdr rx]
      have hR : faultR l w = if rd w.m < 0 ∨ ¬ rd w.fr < rd w.tt then 2 else if rd w.fr + rd w.tt = 2 * rd w.c.x then (if l.any (fun x => x.nm == w.nm) then 6 else 0) else 10 := by
        unfold faultR
        rw [hfi]
        by_cases k1 : rd w.m < 0 ∨ ¬ rd w.fr < rd w.tt
        · rw [if_pos k1, if_pos k1]; rfl
        · rw [if_neg k1, if_neg k1]
          by_cases k2 : rd w.fr + rd w.tt = 2 * rd w.c.x
          · rw [if_pos k2, if_pos k2]; rfl
          · rw [if_neg k2, if_neg k2]; rfl
      rw [hR]
      clear hR
      unfold Vt.rd
      generalize rd w.m = xm at *
      generalize rd w.fr = xf at *
      generalize rd w.tt = xt at *
      generalize rd w.c.x = xx at *
      generalize rd w.c.y = xy at *
      generalize rd w.c.z = xz at *
      clear hfi
      generalize (xf + xt) * (1 / 2) = mid at *
      generalize (xx - mid).num.sign = sc at *
      generalize xm.num.sign = sm at *
      simp (maxSteps := 10000000) only [↓sx, sx, ↓ty, ↓reduceIte, Nat.reduceEqDiff, Nat.reduceBeqDiff, Nat.reduceAdd, Nat.reduceLeDiff, Nat.reduceLT, Nat.reduceMul, Nat.reduceSub, Int.reduceEq, Int.reduceBNe, Int.reduceBEq, ne_eq, not_false_eq_true, pc, ls, bs, and_true, true_and, and_self, Nat.reduceAdd, Nat.le_refl, leafP, pv, pj, pz]
      refine CallT.mk (t := ⟨⟩) S ?_
      by_cases c1 : xm < 0
      · have d1 : decide (sm < 0) = true := decide_eq_true (sg.2 c1)
        rw [if_pos (.inl c1)]
        simp (maxSteps := 10000000) only [↓sx, sx, ↓ty, ↓reduceIte, Nat.reduceEqDiff, Nat.reduceBeqDiff, Nat.reduceAdd, Nat.reduceLeDiff, Nat.reduceLT, Nat.reduceMul, Nat.reduceSub, Int.reduceEq, Int.reduceBNe, Int.reduceBEq, ne_eq, not_false_eq_true, pc, ls, bs, and_true, true_and, and_self, Nat.reduceAdd, Nat.le_refl, leafP, pv, pj, pz, d1]
      · have d1 : decide (sm < 0) = false := decide_eq_false (fun h => c1 (sg.1 h))
        simp (maxSteps := 10000000) only [↓sx, sx, ↓ty, ↓reduceIte, Nat.reduceEqDiff, Nat.reduceBeqDiff, Nat.reduceAdd, Nat.reduceLeDiff, Nat.reduceLT, Nat.reduceMul, Nat.reduceSub, Int.reduceEq, Int.reduceBNe, Int.reduceBEq, ne_eq, not_false_eq_true, pc, ls, bs, and_true, true_and, and_self, Nat.reduceAdd, Nat.le_refl, leafP, pv, pj, pz, d1]
        refine CallT.mk (t := ⟨⟩) L ?_
        by_cases c2 : xf < xt
        · rw [decide_eq_true c2, if_neg (by simp [c1, c2])]
          simp (maxSteps := 10000000) only [↓sx, sx, ↓ty, ↓reduceIte, Nat.reduceEqDiff, Nat.reduceBeqDiff, Nat.reduceAdd, Nat.reduceLeDiff, Nat.reduceLT, Nat.reduceMul, Nat.reduceSub, Int.reduceEq, Int.reduceBNe, Int.reduceBEq, ne_eq, not_false_eq_true, pc, ls, bs, and_true, true_and, and_self, Nat.reduceAdd, Nat.le_refl, leafP, pv, pj, pz]
          refine CallT.mk (t := ⟨⟩) M ?_
          simp (maxSteps := 10000000) only [↓sx, sx, ↓ty, ↓reduceIte, Nat.reduceEqDiff, Nat.reduceBeqDiff, Nat.reduceAdd, Nat.reduceLeDiff, Nat.reduceLT, Nat.reduceMul, Nat.reduceSub, Int.reduceEq, Int.reduceBNe, Int.reduceBEq, ne_eq, not_false_eq_true, pc, ls, bs, and_true, true_and, and_self, Nat.reduceAdd, Nat.le_refl, leafP, pv, pj, pz]
          refine CallT.mk (t := ⟨⟩) C ?_
          by_cases c3 : xf + xt = 2 * xx
          · have d3 : (sc != 0) = false := by rw [me.2 c3]; rfl
            rw [if_pos c3]
            simp (maxSteps := 10000000) only [↓sx, sx, ↓ty, ↓reduceIte, Nat.reduceEqDiff, Nat.reduceBeqDiff, Nat.reduceAdd, Nat.reduceLeDiff, Nat.reduceLT, Nat.reduceMul, Nat.reduceSub, Int.reduceEq, Int.reduceBNe, Int.reduceBEq, ne_eq, not_false_eq_true, pc, ls, bs, and_true, true_and, and_self, Nat.reduceAdd, Nat.le_refl, leafP, pv, pj, pz, d3]
            refine loopK_of (fun i : Nat => [(3, .box 3 0), (4, .p (iP 0)), (65, .p (.sl l.length (recs wtC l))), (66, .p (.val (.int .i64 (l.length : Nat)))), (67, .p (.val (.int .i64 (i : Nat))))]) (fun _ => [(3, (34, wtC w))]) (fun _ => []) (fun i => i ≤ l.length ∧ (l.take i).any (fun y => y.nm == w.nm) = false) (fun i => l.length - i) 0 ⟨Nat.zero_le _, rfl⟩ ?_ ?_
            · unfold wtC
              simp (maxSteps := 10000000) only [isE_nil, is_cons, bo_p, bo_box, bo_orow, bo_rowp, any_cons', all_cons', all_nil', Bool.true_or, Bool.or_true, ↓sx, sx, ↓reduceIte, Nat.reduceEqDiff, Nat.reduceBeqDiff]
              first | trivial | rfl | exact ⟨rfl, rfl⟩ | exact ⟨rfl, rfl, rfl⟩ | exact ⟨rfl, rfl, rfl, rfl⟩ | exact ⟨rfl, rfl, rfl, rfl, rfl⟩
            · rintro i ⟨hi, hv⟩
              by_cases hil : i < l.length
              · have e1 : decide ((i : Int) < ((l.length : Nat) : Int)) = true := decide_eq_true (by omega)
                obtain ⟨x, hx⟩ := getA hil
                have hd := wt_drop l i x hx
                have hs := any_take_snoc hx w.nm
                have hw3 : wtC w = [.val (.string ⟨w.nm.toArray⟩), .val (.string ⟨w.m.toArray⟩), .val (.string ⟨w.c.x.toArray⟩), .val (.string ⟨w.c.y.toArray⟩), .val (.string ⟨w.c.z.toArray⟩), .val (.string ⟨w.fr.toArray⟩), .val (.string ⟨w.tt.toArray⟩)] := rfl
                simp (maxSteps := 10000000) only [↓sx, sx, ↓ty, ↓reduceIte, Nat.reduceEqDiff, Nat.reduceBeqDiff, Nat.reduceAdd, Nat.reduceLeDiff, Nat.reduceLT, Nat.reduceMul, Nat.reduceSub, Int.reduceEq, Int.reduceBNe, Int.reduceBEq, ne_eq, not_false_eq_true, pc, ls, bs, and_true, true_and, and_self, Nat.reduceAdd, Nat.le_refl, leafP, e1, hd, hlen, hw3]
                refine ⟨⟨by omega, hil, by omega⟩, ?_⟩
                cases hb : (x.nm == w.nm) with
                | true =>
                  have ha : l.any (fun y => y.nm == w.nm) = true := List.any_eq_true.2 ⟨x, List.mem_of_getElem? hx, hb⟩
                  rw [ha]
                  simp (maxSteps := 10000000) only [↓sx, sx, ↓ty, ↓reduceIte, Nat.reduceEqDiff, Nat.reduceBeqDiff, Nat.reduceAdd, Nat.reduceLeDiff, Nat.reduceLT, Nat.reduceMul, Nat.reduceSub, Int.reduceEq, Int.reduceBNe, Int.reduceBEq, ne_eq, not_false_eq_true, pc, ls, bs, and_true, true_and, and_self, Nat.reduceAdd, Nat.le_refl, leafP, ba_beq, hb]
                | false =>
                  simp (maxSteps := 10000000) only [↓sx, sx, ↓ty, ↓reduceIte, Nat.reduceEqDiff, Nat.reduceBeqDiff, Nat.reduceAdd, Nat.reduceLeDiff, Nat.reduceLT, Nat.reduceMul, Nat.reduceSub, Int.reduceEq, Int.reduceBNe, Int.reduceBEq, ne_eq, not_false_eq_true, pc, ls, bs, and_true, true_and, and_self, Nat.reduceAdd, Nat.le_refl, leafP, ba_beq, hb]
                  refine NextK.mk (i + 1) (by omega) ⟨by omega, by rw [hs, hv, hb]; rfl⟩ ?_
                  simp (maxSteps := 10000000) only [isE_nil, is_cons, bo_p, bo_box, bo_orow, bo_rowp, any_cons', all_cons', all_nil', Bool.true_or, Bool.or_true, ↓sx, sx, ↓reduceIte, Nat.reduceEqDiff, Nat.reduceBeqDiff, hw3]
                  rw [i64_id (by omega) (by omega)]
                  first | trivial | rfl | exact ⟨rfl, rfl⟩ | exact ⟨rfl, rfl, rfl⟩ | exact ⟨rfl, rfl, rfl, rfl⟩ | exact ⟨rfl, rfl, rfl, rfl, rfl⟩
              · obtain rfl : i = l.length := by omega
                have e1 : decide (((l.length : Nat) : Int) < ((l.length : Nat) : Int)) = false := decide_eq_false (by omega)
                rw [List.take_length] at hv
                rw [hv]
                simp (maxSteps := 10000000) only [↓sx, sx, ↓ty, ↓reduceIte, Nat.reduceEqDiff, Nat.reduceBeqDiff, Nat.reduceAdd, Nat.reduceLeDiff, Nat.reduceLT, Nat.reduceMul, Nat.reduceSub, Int.reduceEq, Int.reduceBNe, Int.reduceBEq, ne_eq, not_false_eq_true, pc, ls, bs, and_true, true_and, and_self, Nat.reduceAdd, Nat.le_refl, leafP, e1]
          · have d3 : (sc != 0) = true := by rw [bne_iff_ne]; exact fun h => c3 (me.1 h)
            rw [if_neg c3]
            simp (maxSteps := 10000000) only [↓sx, sx, ↓ty, ↓reduceIte, Nat.reduceEqDiff, Nat.reduceBeqDiff, Nat.reduceAdd, Nat.reduceLeDiff, Nat.reduceLT, Nat.reduceMul, Nat.reduceSub, Int.reduceEq, Int.reduceBNe, Int.reduceBEq, ne_eq, not_false_eq_true, pc, ls, bs, and_true, true_and, and_self, Nat.reduceAdd, Nat.le_refl, leafP, pv, pj, pz, d3]
        · rw [decide_eq_false c2, if_pos (.inr c2)]
          simp (maxSteps := 10000000) only [↓sx, sx, ↓ty, ↓reduceIte, Nat.reduceEqDiff, Nat.reduceBeqDiff, Nat.reduceAdd, Nat.reduceLeDiff, Nat.reduceLT, Nat.reduceMul, Nat.reduceSub, Int.reduceEq, Int.reduceBNe, Int.reduceBEq, ne_eq, not_false_eq_true, pc, ls, bs, and_true, true_and, and_self, Nat.reduceAdd, Nat.le_refl, leafP, pv, pj, pz]
set_option maxRecDepth 100000 in
set_option maxHeartbeats 8000000 in
theorem checkR_n (l : List Wt) (hs : ∀ x ∈ l, x.lt 20000) (hl : l.length ≤ 1000000) : Meets Tryz.prog Gd 21 [.sl l.length (recs wtC l)] (iP (check24 l)) := by
  refine meets_of_vc (Y := {}) (N := 25) (rs := [.tmp 2]) mix tk gd Tryz.func21 rfl (by kernel_rfl) rfl rfl (by simp) (by kernel_rfl) ?_
  unfold check24
  have hlen : (recs wtC l).length = l.length * 7 := recs_len wtC_len l
  by_cases h64 : 64 < l.length
  · have d1 : decide (((l.length : Nat) : Int) > 64) = true := decide_eq_true (by omega)
    rw [if_pos h64]
    simp (maxSteps := 10000000) only [↓sx, sx, ↓ty, ↓reduceIte, Nat.reduceEqDiff, Nat.reduceBeqDiff, Nat.reduceAdd, Nat.reduceLeDiff, Nat.reduceLT, Nat.reduceMul, Nat.reduceSub, Int.reduceEq, Int.reduceBNe, Int.reduceBEq, ne_eq, not_false_eq_true, pc, ls, bs, and_true, true_and, and_self, Nat.reduceAdd, Nat.le_refl, leafP, d1]
  · have d1 : decide (((l.length : Nat) : Int) > 64) = false := decide_eq_false (by omega)
    rw [if_neg h64]
    simp (maxSteps := 10000000) only [↓sx, sx, ↓ty, ↓reduceIte, Nat.reduceEqDiff, Nat.reduceBeqDiff, Nat.reduceAdd, Nat.reduceLeDiff, Nat.reduceLT, Nat.reduceMul, Nat.reduceSub, Int.reduceEq, Int.reduceBNe, Int.reduceBEq, ne_eq, not_false_eq_true, pc, ls, bs, and_true, true_and, and_self, Nat.reduceAdd, Nat.le_refl, leafP, d1]
    refine loopK_of (fun i : Nat => [(0, .p (.sl l.length (recs wtC l))), (2, .p (iP 0)), (9, .p (.sl l.length (recs wtC l))), (10, .p (.val (.int .i64 (l.length : Nat)))), (11, .p (.val (.int .i64 (i : Nat))))]) (fun _ => []) (fun _ => []) (fun i => i ≤ l.length ∧ chkI (namesR (l.take i)) (l.drop i) = chkI [] l) (fun i => l.length - i) 0 ⟨Nat.zero_le _, rfl⟩ ?_ ?_
    · simp (maxSteps := 10000000) only [isE_nil, is_cons, bo_p, bo_box, bo_orow, bo_rowp, any_cons', all_cons', all_nil', Bool.true_or, Bool.or_true, ↓sx, sx, ↓reduceIte, Nat.reduceEqDiff, Nat.reduceBeqDiff]
      first | trivial | rfl | exact ⟨rfl, rfl⟩ | exact ⟨rfl, rfl, rfl⟩ | exact ⟨rfl, rfl, rfl, rfl⟩ | exact ⟨rfl, rfl, rfl, rfl, rfl⟩
    · rintro i ⟨hi, hv⟩
      by_cases hil : i < l.length
      · have e1 : decide ((i : Int) < ((l.length : Nat) : Int)) = true := decide_eq_true (by omega)
        obtain ⟨x, hx⟩ := getA hil
        have hm : x ∈ l := List.mem_of_getElem? hx
        have hd := wt_drop l i x hx
        have ht : (recs wtC l).take (i * 7) = recs wtC (l.take i) := recs_take wtC_len l i
        have tl : (l.take i).length = i := by rw [List.length_take]; omega
        have F := faultR_n (l.take i) x (hs x hm) (by omega)
        rw [tl] at F
        unfold faultR at F
        rw [← names_any] at F
        rw [drop_at hx, chkI_cons] at hv
        by_cases hf : faultI x = 0
        · rw [if_pos hf] at F hv
          cases hsn : (namesR (l.take i)).contains x.nm with
          | true =>
            rw [hsn, if_pos rfl] at F hv
            rw [← hv]
            simp (maxSteps := 10000000) only [↓sx, sx, ↓ty, ↓reduceIte, Nat.reduceEqDiff, Nat.reduceBeqDiff, Nat.reduceAdd, Nat.reduceLeDiff, Nat.reduceLT, Nat.reduceMul, Nat.reduceSub, Int.reduceEq, Int.reduceBNe, Int.reduceBEq, ne_eq, not_false_eq_true, pc, ls, bs, and_true, true_and, and_self, Nat.reduceAdd, Nat.le_refl, leafP, e1, hd, hlen, ht]
            refine ⟨⟨by omega, hil, by omega⟩, ⟨by omega, by omega, by omega⟩, ?_⟩
            refine CallT.mk (t := ⟨⟩) F ?_
            simp (maxSteps := 10000000) only [↓sx, sx, ↓ty, ↓reduceIte, Nat.reduceEqDiff, Nat.reduceBeqDiff, Nat.reduceAdd, Nat.reduceLeDiff, Nat.reduceLT, Nat.reduceMul, Nat.reduceSub, Int.reduceEq, Int.reduceBNe, Int.reduceBEq, ne_eq, not_false_eq_true, pc, ls, bs, and_true, true_and, and_self, Nat.reduceAdd, Nat.le_refl, leafP]
          | false =>
            rw [hsn, if_neg (by decide)] at F hv
            simp (maxSteps := 10000000) only [↓sx, sx, ↓ty, ↓reduceIte, Nat.reduceEqDiff, Nat.reduceBeqDiff, Nat.reduceAdd, Nat.reduceLeDiff, Nat.reduceLT, Nat.reduceMul, Nat.reduceSub, Int.reduceEq, Int.reduceBNe, Int.reduceBEq, ne_eq, not_false_eq_true, pc, ls, bs, and_true, true_and, and_self, Nat.reduceAdd, Nat.le_refl, leafP, e1, hd, hlen, ht]
            refine ⟨⟨by omega, hil, by omega⟩, ⟨by omega, by omega, by omega⟩, ?_⟩
            refine CallT.mk (t := ⟨⟩) F ?_
            simp (maxSteps := 10000000) only [↓sx, sx, ↓ty, ↓reduceIte, Nat.reduceEqDiff, Nat.reduceBeqDiff, Nat.reduceAdd, Nat.reduceLeDiff, Nat.reduceLT, Nat.reduceMul, Nat.reduceSub, Int.reduceEq, Int.reduceBNe, Int.reduceBEq, ne_eq, not_false_eq_true, pc, ls, bs, and_true, true_and, and_self, Nat.reduceAdd, Nat.le_refl, leafP]
            refine NextK.mk (i + 1) (by omega) ⟨by omega, ?_⟩ ?_
            · rw [take_snocA hx, namesR_snoc]; exact hv
            · simp (maxSteps := 10000000) only [isE_nil, is_cons, bo_p, bo_box, bo_orow, bo_rowp, any_cons', all_cons', all_nil', Bool.true_or, Bool.or_true, ↓sx, sx, ↓reduceIte, Nat.reduceEqDiff, Nat.reduceBeqDiff]
              rw [i64_id (by omega) (by omega)]
              first | trivial | rfl | exact ⟨rfl, rfl⟩ | exact ⟨rfl, rfl, rfl⟩ | exact ⟨rfl, rfl, rfl, rfl⟩ | exact ⟨rfl, rfl, rfl, rfl, rfl⟩
        · have d0 : (faultI x != 0) = true := by simp [hf]
          rw [if_neg hf] at F hv
          rw [← hv]
          simp (maxSteps := 10000000) only [↓sx, sx, ↓ty, ↓reduceIte, Nat.reduceEqDiff, Nat.reduceBeqDiff, Nat.reduceAdd, Nat.reduceLeDiff, Nat.reduceLT, Nat.reduceMul, Nat.reduceSub, Int.reduceEq, Int.reduceBNe, Int.reduceBEq, ne_eq, not_false_eq_true, pc, ls, bs, and_true, true_and, and_self, Nat.reduceAdd, Nat.le_refl, leafP, e1, hd, hlen, ht]
          refine ⟨⟨by omega, hil, by omega⟩, ⟨by omega, by omega, by omega⟩, ?_⟩
          refine CallT.mk (t := ⟨⟩) F ?_
          simp (maxSteps := 10000000) only [↓sx, sx, ↓ty, ↓reduceIte, Nat.reduceEqDiff, Nat.reduceBeqDiff, Nat.reduceAdd, Nat.reduceLeDiff, Nat.reduceLT, Nat.reduceMul, Nat.reduceSub, Int.reduceEq, Int.reduceBNe, Int.reduceBEq, ne_eq, not_false_eq_true, pc, ls, bs, and_true, true_and, and_self, Nat.reduceAdd, Nat.le_refl, leafP, d0]
      · obtain rfl : i = l.length := by omega
        have e1 : decide (((l.length : Nat) : Int) < ((l.length : Nat) : Int)) = false := decide_eq_false (by omega)
        rw [List.drop_length] at hv
        rw [← hv]
        simp (maxSteps := 10000000) only [↓sx, sx, ↓ty, ↓reduceIte, Nat.reduceEqDiff, Nat.reduceBeqDiff, Nat.reduceAdd, Nat.reduceLeDiff, Nat.reduceLT, Nat.reduceMul, Nat.reduceSub, Int.reduceEq, Int.reduceBNe, Int.reduceBEq, ne_eq, not_false_eq_true, pc, ls, bs, and_true, true_and, and_self, Nat.reduceAdd, Nat.le_refl, leafP, e1]
        rfl
end Go.Proofs.YtnlabeglboomlaaGreatDoor.S
namespace Gb
open Go Go.RowKit Go.Sx
theorem totM_ok {l : List Wt} (hb : ∀ x ∈ l, x.b) (hf : ∀ w ∈ l, faultI w = 0) (i : Nat) (hi : i ≤ l.length) : Sz (7 * i + 1) (totM (l.take i)) :=
  totM_sz i (l.take i) (by rw [List.length_take]; omega) (fun w hw => by have hw := List.mem_of_mem_take hw; exact ⟨(fault_ok (hf w hw)).2.1, (hb w hw).2.1⟩)
theorem totV_ok {l : List Wt} (hb : ∀ x ∈ l, x.b) (hf : ∀ w ∈ l, faultI w = 0) (i : Nat) (hi : i ≤ l.length) : SzV (33 * i + 1) (totV (l.take i)) :=
  totV_sz i (l.take i) (by rw [List.length_take]; omega) (fun w hw => by have hw := List.mem_of_mem_take hw; exact ⟨(fault_ok (hf w hw)).2.1, (hb w hw).2.1, (fault_ok (hf w hw)).2.2.1, (hb w hw).2.2.1⟩)
def shortW (w : Wt) : Bool := decide (w.nm.length ≤ 100) && short w.m && shortV w.c && short w.fr && short w.tt
def shortL (l : List Wt) : Bool := l.all shortW && (decide (l.length ≤ 12) || decide (64 ≤ l.length) && decide (l.length ≤ 65))
theorem short_le {l : List UInt8} (h : short l = true) : l.length ≤ 40 := by unfold short at h; exact of_decide_eq_true h
theorem shortW_s {w : Wt} (h : shortW w = true) : w.s := by
  unfold shortW shortV at h
  simp only [Bool.and_eq_true] at h
  obtain ⟨⟨⟨⟨h1, h2⟩, ⟨h3, h4⟩, h5⟩, h6⟩, h7⟩ := h
  have := of_decide_eq_true h1
  have := short_le h2
  have := short_le h3
  have := short_le h4
  have := short_le h5
  have := short_le h6
  have := short_le h7
  exact ⟨by omega, by omega, ⟨by omega, by omega, by omega⟩, by omega, by omega⟩
theorem shortL_s {l : List Wt} (h : shortL l = true) : (∀ w ∈ l, w.s) ∧ l.length ≤ 65 := by
  unfold shortL at h
  rw [Bool.and_eq_true] at h
  refine ⟨fun w hw => shortW_s (List.all_eq_true.1 h.1 w hw), ?_⟩
  have := h.2
  simp at this
  omega
end Gb
namespace Go.Proofs.YtnlabeglboomlaaGreatDoor.S
open Go Go.Sx Go.RowKit Gb Go.Shelf
end Go.Proofs.YtnlabeglboomlaaGreatDoor.S
namespace Gb
open Go Go.RowKit Go.Sx
theorem all_take_snoc {l : List Wt} {i : Nat} {x : Wt} (h : l[i]? = some x) (p : Wt → Bool) : (l.take (i + 1)).all p = ((l.take i).all p && p x) := by
  rw [take_snocA h, List.all_append]; simp
def fnd (n : List UInt8) : Nat → List Wt → Int
  | _, [] => -1
  | i, x :: r => if x.nm == n then (i : Int) else fnd n (i + 1) r
def findI (n : List UInt8) (l : List Wt) : Int := fnd n 0 l
theorem fnd_at {n : List UInt8} {x : Wt} : ∀ {l : List Wt} {i k : Nat}, l[i]? = some x → (∀ y ∈ l.take i, (y.nm == n) = false) → (x.nm == n) = true → fnd n k l = ((k + i : Nat) : Int)
  | [], i, k, h, _, _ => by simp at h
  | a :: r, 0, k, h, _, e => by
    simp at h; subst h
    unfold fnd; rw [if_pos e]; rfl
  | a :: r, i + 1, k, h, hn, e => by
    have h1 := hn a (by simp)
    unfold fnd; rw [if_neg (by rw [h1]; decide), fnd_at (l := r) (i := i) (k := k + 1) (by simpa using h) (fun y hy => hn y (by simp [hy])) e]
    congr 1; omega
theorem fnd_none {n : List UInt8} : ∀ {l : List Wt} {k : Nat}, (∀ y ∈ l, (y.nm == n) = false) → fnd n k l = -1
  | [], k, _ => rfl
  | a :: r, k, h => by
    unfold fnd; rw [if_neg (by rw [h a (by simp)]; decide), fnd_none (l := r) (fun y hy => h y (by simp [hy]))]
end Gb
namespace Go.Proofs.YtnlabeglboomlaaGreatDoor.S
open Go Go.Sx Go.RowKit Gb Go.Shelf
set_option maxRecDepth 100000 in
set_option maxHeartbeats 8000000 in
theorem shortL_n (l : List Wt) (hl : l.length ≤ 9223372036854775807) : Meets Tryz.prog Gd 11 [.sl l.length (recs wtC l)] (.val (.bool (shortL l))) := by
  refine meets_of_vc (Y := {}) (N := 53) (rs := [.tmp 2]) mix tk gd Tryz.func11 rfl (by kernel_rfl) rfl rfl (by simp) (by kernel_rfl) ?_
  have hlen : (recs wtC l).length = l.length * 7 := recs_len wtC_len l
  simp (maxSteps := 10000000) only [↓sx, sx, ↓ty, ↓reduceIte, Nat.reduceEqDiff, Nat.reduceBeqDiff, Nat.reduceAdd, Nat.reduceLeDiff, Nat.reduceLT, Nat.reduceMul, Nat.reduceSub, Int.reduceEq, Int.reduceBNe, Int.reduceBEq, ne_eq, not_false_eq_true, pc, ls, bs, and_true, true_and, and_self, Nat.reduceAdd, Nat.le_refl, leafP]
  refine loopK_of (fun i : Nat => [(0, .p (.sl l.length (recs wtC l))), (2, .p (.val (.bool false))), (5, .p (.sl l.length (recs wtC l))), (6, .p (.val (.int .i64 (l.length : Nat)))), (7, .p (.val (.int .i64 (i : Nat))))]) (fun _ => []) (fun _ => []) (fun i => i ≤ l.length ∧ (l.take i).all shortW = true) (fun i => l.length - i) 0 ⟨Nat.zero_le _, rfl⟩ ?_ ?_
  · simp (maxSteps := 10000000) only [isE_nil, is_cons, bo_p, bo_box, bo_orow, bo_rowp, any_cons', all_cons', all_nil', Bool.true_or, Bool.or_true, ↓sx, sx, ↓reduceIte, Nat.reduceEqDiff, Nat.reduceBeqDiff]
    first | trivial | rfl | exact ⟨rfl, rfl⟩ | exact ⟨rfl, rfl, rfl⟩ | exact ⟨rfl, rfl, rfl, rfl⟩ | exact ⟨rfl, rfl, rfl, rfl, rfl⟩
  · rintro i ⟨hi, hv⟩
    by_cases hil : i < l.length
    · have e1 : decide ((i : Int) < ((l.length : Nat) : Int)) = true := decide_eq_true (by omega)
      obtain ⟨x, hx⟩ := getA hil
      have hm : x ∈ l := List.mem_of_getElem? hx
      have hd := wt_drop l i x hx
      have H := all_take_snoc hx shortW
      have n100 : decide (((x.nm.length : Nat) : Int) > 100) = !decide (x.nm.length ≤ 100) := by rw [← decide_not]; congr 1; apply propext; omega
      have M := short16_n x.m
      have V := shortV16_n x.c
      have A := short16_n x.fr
      have B := short16_n x.tt
      have hs : shortW x = (decide (x.nm.length ≤ 100) && short x.m && shortV x.c && short x.fr && short x.tt) := rfl
      have hf : shortW x = false → shortL l = false := fun h => by
        unfold shortL
        rw [Bool.and_eq_false_iff]; left
        rw [List.all_eq_false]
        exact ⟨x, hm, by rw [h]; decide⟩
      generalize short x.m = b1 at *
      generalize shortV x.c = b2 at *
      generalize short x.fr = b3 at *
      generalize short x.tt = b4 at *
      have next : shortW x = true → i + 1 ≤ l.length ∧ (l.take (i + 1)).all shortW = true := fun h => ⟨by omega, by rw [H, hv, h]; rfl⟩
      cases c0 : decide (x.nm.length ≤ 100) with
      | false =>
        rw [c0] at hs n100
        rw [hf (by rw [hs]; rfl)]
        simp (maxSteps := 10000000) only [↓sx, sx, ↓ty, ↓reduceIte, Nat.reduceEqDiff, Nat.reduceBeqDiff, Nat.reduceAdd, Nat.reduceLeDiff, Nat.reduceLT, Nat.reduceMul, Nat.reduceSub, Int.reduceEq, Int.reduceBNe, Int.reduceBEq, ne_eq, not_false_eq_true, pc, ls, bs, and_true, true_and, and_self, Nat.reduceAdd, Nat.le_refl, leafP, pv, e1, hd, hlen, n100]
        exact ⟨by omega, hil, by omega⟩
      | true =>
        rw [c0] at hs n100
        cases b1 with
        | false =>
          rw [hf (by rw [hs]; rfl)]
          simp (maxSteps := 10000000) only [↓sx, sx, ↓ty, ↓reduceIte, Nat.reduceEqDiff, Nat.reduceBeqDiff, Nat.reduceAdd, Nat.reduceLeDiff, Nat.reduceLT, Nat.reduceMul, Nat.reduceSub, Int.reduceEq, Int.reduceBNe, Int.reduceBEq, ne_eq, not_false_eq_true, pc, ls, bs, and_true, true_and, and_self, Nat.reduceAdd, Nat.le_refl, leafP, pv, e1, hd, hlen, n100]
          refine ⟨⟨by omega, hil, by omega⟩, ?_⟩
          refine CallT.mk (t := ⟨⟩) M ?_
          simp (maxSteps := 10000000) only [↓sx, sx, ↓ty, ↓reduceIte, Nat.reduceEqDiff, Nat.reduceBeqDiff, Nat.reduceAdd, Nat.reduceLeDiff, Nat.reduceLT, Nat.reduceMul, Nat.reduceSub, Int.reduceEq, Int.reduceBNe, Int.reduceBEq, ne_eq, not_false_eq_true, pc, ls, bs, and_true, true_and, and_self, Nat.reduceAdd, Nat.le_refl, leafP, pv, n100]
        | true =>
          cases b2 with
          | false =>
            rw [hf (by rw [hs]; rfl)]
            simp (maxSteps := 10000000) only [↓sx, sx, ↓ty, ↓reduceIte, Nat.reduceEqDiff, Nat.reduceBeqDiff, Nat.reduceAdd, Nat.reduceLeDiff, Nat.reduceLT, Nat.reduceMul, Nat.reduceSub, Int.reduceEq, Int.reduceBNe, Int.reduceBEq, ne_eq, not_false_eq_true, pc, ls, bs, and_true, true_and, and_self, Nat.reduceAdd, Nat.le_refl, leafP, pv, e1, hd, hlen, n100]
            refine ⟨⟨by omega, hil, by omega⟩, ?_⟩
            refine CallT.mk (t := ⟨⟩) M ?_
            simp (maxSteps := 10000000) only [↓sx, sx, ↓ty, ↓reduceIte, Nat.reduceEqDiff, Nat.reduceBeqDiff, Nat.reduceAdd, Nat.reduceLeDiff, Nat.reduceLT, Nat.reduceMul, Nat.reduceSub, Int.reduceEq, Int.reduceBNe, Int.reduceBEq, ne_eq, not_false_eq_true, pc, ls, bs, and_true, true_and, and_self, Nat.reduceAdd, Nat.le_refl, leafP, pv, n100]
            refine CallT.mk (t := ⟨⟩) V ?_
            simp (maxSteps := 10000000) only [↓sx, sx, ↓ty, ↓reduceIte, Nat.reduceEqDiff, Nat.reduceBeqDiff, Nat.reduceAdd, Nat.reduceLeDiff, Nat.reduceLT, Nat.reduceMul, Nat.reduceSub, Int.reduceEq, Int.reduceBNe, Int.reduceBEq, ne_eq, not_false_eq_true, pc, ls, bs, and_true, true_and, and_self, Nat.reduceAdd, Nat.le_refl, leafP, pv, n100]
          | true =>
            cases b3 with
            | false =>
              rw [hf (by rw [hs]; rfl)]
              simp (maxSteps := 10000000) only [↓sx, sx, ↓ty, ↓reduceIte, Nat.reduceEqDiff, Nat.reduceBeqDiff, Nat.reduceAdd, Nat.reduceLeDiff, Nat.reduceLT, Nat.reduceMul, Nat.reduceSub, Int.reduceEq, Int.reduceBNe, Int.reduceBEq, ne_eq, not_false_eq_true, pc, ls, bs, and_true, true_and, and_self, Nat.reduceAdd, Nat.le_refl, leafP, pv, e1, hd, hlen, n100]
              refine ⟨⟨by omega, hil, by omega⟩, ?_⟩
              refine CallT.mk (t := ⟨⟩) M ?_
              simp (maxSteps := 10000000) only [↓sx, sx, ↓ty, ↓reduceIte, Nat.reduceEqDiff, Nat.reduceBeqDiff, Nat.reduceAdd, Nat.reduceLeDiff, Nat.reduceLT, Nat.reduceMul, Nat.reduceSub, Int.reduceEq, Int.reduceBNe, Int.reduceBEq, ne_eq, not_false_eq_true, pc, ls, bs, and_true, true_and, and_self, Nat.reduceAdd, Nat.le_refl, leafP, pv, n100]
              refine CallT.mk (t := ⟨⟩) V ?_
              simp (maxSteps := 10000000) only [↓sx, sx, ↓ty, ↓reduceIte, Nat.reduceEqDiff, Nat.reduceBeqDiff, Nat.reduceAdd, Nat.reduceLeDiff, Nat.reduceLT, Nat.reduceMul, Nat.reduceSub, Int.reduceEq, Int.reduceBNe, Int.reduceBEq, ne_eq, not_false_eq_true, pc, ls, bs, and_true, true_and, and_self, Nat.reduceAdd, Nat.le_refl, leafP, pv, n100]
              refine CallT.mk (t := ⟨⟩) A ?_
              simp (maxSteps := 10000000) only [↓sx, sx, ↓ty, ↓reduceIte, Nat.reduceEqDiff, Nat.reduceBeqDiff, Nat.reduceAdd, Nat.reduceLeDiff, Nat.reduceLT, Nat.reduceMul, Nat.reduceSub, Int.reduceEq, Int.reduceBNe, Int.reduceBEq, ne_eq, not_false_eq_true, pc, ls, bs, and_true, true_and, and_self, Nat.reduceAdd, Nat.le_refl, leafP, pv, n100]
            | true =>
              cases b4 with
              | false =>
                rw [hf (by rw [hs]; rfl)]
                simp (maxSteps := 10000000) only [↓sx, sx, ↓ty, ↓reduceIte, Nat.reduceEqDiff, Nat.reduceBeqDiff, Nat.reduceAdd, Nat.reduceLeDiff, Nat.reduceLT, Nat.reduceMul, Nat.reduceSub, Int.reduceEq, Int.reduceBNe, Int.reduceBEq, ne_eq, not_false_eq_true, pc, ls, bs, and_true, true_and, and_self, Nat.reduceAdd, Nat.le_refl, leafP, pv, e1, hd, hlen, n100]
                refine ⟨⟨by omega, hil, by omega⟩, ?_⟩
                refine CallT.mk (t := ⟨⟩) M ?_
                simp (maxSteps := 10000000) only [↓sx, sx, ↓ty, ↓reduceIte, Nat.reduceEqDiff, Nat.reduceBeqDiff, Nat.reduceAdd, Nat.reduceLeDiff, Nat.reduceLT, Nat.reduceMul, Nat.reduceSub, Int.reduceEq, Int.reduceBNe, Int.reduceBEq, ne_eq, not_false_eq_true, pc, ls, bs, and_true, true_and, and_self, Nat.reduceAdd, Nat.le_refl, leafP, pv, n100]
                refine CallT.mk (t := ⟨⟩) V ?_
                simp (maxSteps := 10000000) only [↓sx, sx, ↓ty, ↓reduceIte, Nat.reduceEqDiff, Nat.reduceBeqDiff, Nat.reduceAdd, Nat.reduceLeDiff, Nat.reduceLT, Nat.reduceMul, Nat.reduceSub, Int.reduceEq, Int.reduceBNe, Int.reduceBEq, ne_eq, not_false_eq_true, pc, ls, bs, and_true, true_and, and_self, Nat.reduceAdd, Nat.le_refl, leafP, pv, n100]
                refine CallT.mk (t := ⟨⟩) A ?_
                simp (maxSteps := 10000000) only [↓sx, sx, ↓ty, ↓reduceIte, Nat.reduceEqDiff, Nat.reduceBeqDiff, Nat.reduceAdd, Nat.reduceLeDiff, Nat.reduceLT, Nat.reduceMul, Nat.reduceSub, Int.reduceEq, Int.reduceBNe, Int.reduceBEq, ne_eq, not_false_eq_true, pc, ls, bs, and_true, true_and, and_self, Nat.reduceAdd, Nat.le_refl, leafP, pv, n100]
                refine CallT.mk (t := ⟨⟩) B ?_
                simp (maxSteps := 10000000) only [↓sx, sx, ↓ty, ↓reduceIte, Nat.reduceEqDiff, Nat.reduceBeqDiff, Nat.reduceAdd, Nat.reduceLeDiff, Nat.reduceLT, Nat.reduceMul, Nat.reduceSub, Int.reduceEq, Int.reduceBNe, Int.reduceBEq, ne_eq, not_false_eq_true, pc, ls, bs, and_true, true_and, and_self, Nat.reduceAdd, Nat.le_refl, leafP, pv, n100]
              | true =>
                simp (maxSteps := 10000000) only [↓sx, sx, ↓ty, ↓reduceIte, Nat.reduceEqDiff, Nat.reduceBeqDiff, Nat.reduceAdd, Nat.reduceLeDiff, Nat.reduceLT, Nat.reduceMul, Nat.reduceSub, Int.reduceEq, Int.reduceBNe, Int.reduceBEq, ne_eq, not_false_eq_true, pc, ls, bs, and_true, true_and, and_self, Nat.reduceAdd, Nat.le_refl, leafP, pv, e1, hd, hlen, n100]
                refine ⟨⟨by omega, hil, by omega⟩, ?_⟩
                refine CallT.mk (t := ⟨⟩) M ?_
                simp (maxSteps := 10000000) only [↓sx, sx, ↓ty, ↓reduceIte, Nat.reduceEqDiff, Nat.reduceBeqDiff, Nat.reduceAdd, Nat.reduceLeDiff, Nat.reduceLT, Nat.reduceMul, Nat.reduceSub, Int.reduceEq, Int.reduceBNe, Int.reduceBEq, ne_eq, not_false_eq_true, pc, ls, bs, and_true, true_and, and_self, Nat.reduceAdd, Nat.le_refl, leafP, pv, n100]
                refine CallT.mk (t := ⟨⟩) V ?_
                simp (maxSteps := 10000000) only [↓sx, sx, ↓ty, ↓reduceIte, Nat.reduceEqDiff, Nat.reduceBeqDiff, Nat.reduceAdd, Nat.reduceLeDiff, Nat.reduceLT, Nat.reduceMul, Nat.reduceSub, Int.reduceEq, Int.reduceBNe, Int.reduceBEq, ne_eq, not_false_eq_true, pc, ls, bs, and_true, true_and, and_self, Nat.reduceAdd, Nat.le_refl, leafP, pv, n100]
                refine CallT.mk (t := ⟨⟩) A ?_
                simp (maxSteps := 10000000) only [↓sx, sx, ↓ty, ↓reduceIte, Nat.reduceEqDiff, Nat.reduceBeqDiff, Nat.reduceAdd, Nat.reduceLeDiff, Nat.reduceLT, Nat.reduceMul, Nat.reduceSub, Int.reduceEq, Int.reduceBNe, Int.reduceBEq, ne_eq, not_false_eq_true, pc, ls, bs, and_true, true_and, and_self, Nat.reduceAdd, Nat.le_refl, leafP, pv, n100]
                refine CallT.mk (t := ⟨⟩) B ?_
                simp (maxSteps := 10000000) only [↓sx, sx, ↓ty, ↓reduceIte, Nat.reduceEqDiff, Nat.reduceBeqDiff, Nat.reduceAdd, Nat.reduceLeDiff, Nat.reduceLT, Nat.reduceMul, Nat.reduceSub, Int.reduceEq, Int.reduceBNe, Int.reduceBEq, ne_eq, not_false_eq_true, pc, ls, bs, and_true, true_and, and_self, Nat.reduceAdd, Nat.le_refl, leafP, pv, n100]
                refine NextK.mk (i + 1) (by omega) (next (by rw [hs]; rfl)) ?_
                simp (maxSteps := 10000000) only [isE_nil, is_cons, bo_p, bo_box, bo_orow, bo_rowp, any_cons', all_cons', all_nil', Bool.true_or, Bool.or_true, ↓sx, sx, ↓reduceIte, Nat.reduceEqDiff, Nat.reduceBeqDiff]
                rw [i64_id (by omega) (by omega)]
                first | trivial | rfl | exact ⟨rfl, rfl⟩ | exact ⟨rfl, rfl, rfl⟩ | exact ⟨rfl, rfl, rfl, rfl⟩ | exact ⟨rfl, rfl, rfl, rfl, rfl⟩
    · obtain rfl : i = l.length := by omega
      have e1 : decide (((l.length : Nat) : Int) < ((l.length : Nat) : Int)) = false := decide_eq_false (by omega)
      rw [List.take_length] at hv
      have hS : shortL l = (decide (l.length ≤ 12) || decide (64 ≤ l.length) && decide (l.length ≤ 65)) := by unfold shortL; rw [hv]; rfl
      rw [hS]
      have d1 : decide (((l.length : Nat) : Int) ≤ 12) = decide (l.length ≤ 12) := by congr 1; apply propext; omega
      have d2 : decide (((l.length : Nat) : Int) ≥ 64) = decide (64 ≤ l.length) := by congr 1; apply propext; omega
      have d3 : decide (((l.length : Nat) : Int) ≤ 65) = decide (l.length ≤ 65) := by congr 1; apply propext; omega
      cases c1 : decide (l.length ≤ 12) with
      | true =>
        rw [c1] at d1
        simp (maxSteps := 10000000) only [↓sx, sx, ↓ty, ↓reduceIte, Nat.reduceEqDiff, Nat.reduceBeqDiff, Nat.reduceAdd, Nat.reduceLeDiff, Nat.reduceLT, Nat.reduceMul, Nat.reduceSub, Int.reduceEq, Int.reduceBNe, Int.reduceBEq, ne_eq, not_false_eq_true, pc, ls, bs, and_true, true_and, and_self, Nat.reduceAdd, Nat.le_refl, leafP, pv, e1, d1]
      | false =>
        rw [c1] at d1
        cases c2 : decide (64 ≤ l.length) with
        | false =>
          rw [c2] at d2
          simp (maxSteps := 10000000) only [↓sx, sx, ↓ty, ↓reduceIte, Nat.reduceEqDiff, Nat.reduceBeqDiff, Nat.reduceAdd, Nat.reduceLeDiff, Nat.reduceLT, Nat.reduceMul, Nat.reduceSub, Int.reduceEq, Int.reduceBNe, Int.reduceBEq, ne_eq, not_false_eq_true, pc, ls, bs, and_true, true_and, and_self, Nat.reduceAdd, Nat.le_refl, leafP, pv, e1, d1, d2]
        | true =>
          rw [c2] at d2
          simp (maxSteps := 10000000) only [↓sx, sx, ↓ty, ↓reduceIte, Nat.reduceEqDiff, Nat.reduceBeqDiff, Nat.reduceAdd, Nat.reduceLeDiff, Nat.reduceLT, Nat.reduceMul, Nat.reduceSub, Int.reduceEq, Int.reduceBNe, Int.reduceBEq, ne_eq, not_false_eq_true, pc, ls, bs, and_true, true_and, and_self, Nat.reduceAdd, Nat.le_refl, leafP, pv, e1, d1, d2, d3]
set_option maxRecDepth 100000 in
set_option maxHeartbeats 8000000 in
theorem same_n (l : List Wt) (hl : l.length ≤ 9223372036854775807) : Meets Tryz.prog Gd 31 [.sl l.length (recs wtC l), .sl l.length (recs wtC l)] (.val (.bool true)) := by
  refine meets_of_vc (Y := {}) (N := 26) (rs := [.tmp 4]) mix tk gd Tryz.func31 rfl (by kernel_rfl) rfl rfl (by simp) (by kernel_rfl) ?_
  have hlen : (recs wtC l).length = l.length * 7 := recs_len wtC_len l
  have e0 : (((l.length : Nat) : Int) != ((l.length : Nat) : Int)) = false := by simp
  simp (maxSteps := 10000000) only [↓sx, sx, ↓ty, ↓reduceIte, Nat.reduceEqDiff, Nat.reduceBeqDiff, Nat.reduceAdd, Nat.reduceLeDiff, Nat.reduceLT, Nat.reduceMul, Nat.reduceSub, Int.reduceEq, Int.reduceBNe, Int.reduceBEq, ne_eq, not_false_eq_true, pc, ls, bs, and_true, true_and, and_self, Nat.reduceAdd, Nat.le_refl, leafP, e0]
  refine loopK_of (fun i : Nat => [(0, .p (.sl l.length (recs wtC l))), (1, .p (.sl l.length (recs wtC l))), (4, .p (.val (.bool false))), (12, .p (.val (.int .i64 (l.length : Nat)))), (13, .p (.val (.int .i64 (i : Nat))))]) (fun _ => []) (fun _ => []) (fun i => i ≤ l.length) (fun i => l.length - i) 0 (Nat.zero_le _) ?_ ?_
  · simp (maxSteps := 10000000) only [isE_nil, is_cons, bo_p, bo_box, bo_orow, bo_rowp, any_cons', all_cons', all_nil', Bool.true_or, Bool.or_true, ↓sx, sx, ↓reduceIte, Nat.reduceEqDiff, Nat.reduceBeqDiff]
    first | trivial | rfl | exact ⟨rfl, rfl⟩ | exact ⟨rfl, rfl, rfl⟩ | exact ⟨rfl, rfl, rfl, rfl⟩ | exact ⟨rfl, rfl, rfl, rfl, rfl⟩
  · intro i hi
    by_cases hil : i < l.length
    · have e1 : decide ((i : Int) < ((l.length : Nat) : Int)) = true := decide_eq_true (by omega)
      obtain ⟨x, hx⟩ := getA hil
      have hd := wt_drop l i x hx
      simp (maxSteps := 10000000) only [↓sx, sx, ↓ty, ↓reduceIte, Nat.reduceEqDiff, Nat.reduceBeqDiff, Nat.reduceAdd, Nat.reduceLeDiff, Nat.reduceLT, Nat.reduceMul, Nat.reduceSub, Int.reduceEq, Int.reduceBNe, Int.reduceBEq, ne_eq, not_false_eq_true, pc, ls, bs, and_true, true_and, and_self, Nat.reduceAdd, Nat.le_refl, leafP, pv, e1, hd, hlen, ag, beq_self_eq_true]
      refine ⟨⟨by omega, hil, by omega⟩, ⟨by omega, hil, by omega⟩, ?_⟩
      refine NextK.mk (i + 1) (by omega) (by omega) ?_
      simp (maxSteps := 10000000) only [isE_nil, is_cons, bo_p, bo_box, bo_orow, bo_rowp, any_cons', all_cons', all_nil', Bool.true_or, Bool.or_true, ↓sx, sx, ↓reduceIte, Nat.reduceEqDiff, Nat.reduceBeqDiff]
      rw [i64_id (by omega) (by omega)]
      first | trivial | rfl | exact ⟨rfl, rfl⟩ | exact ⟨rfl, rfl, rfl⟩ | exact ⟨rfl, rfl, rfl, rfl⟩ | exact ⟨rfl, rfl, rfl, rfl, rfl⟩
    · obtain rfl : i = l.length := by omega
      have e1 : decide (((l.length : Nat) : Int) < ((l.length : Nat) : Int)) = false := decide_eq_false (by omega)
      simp (maxSteps := 10000000) only [↓sx, sx, ↓ty, ↓reduceIte, Nat.reduceEqDiff, Nat.reduceBeqDiff, Nat.reduceAdd, Nat.reduceLeDiff, Nat.reduceLT, Nat.reduceMul, Nat.reduceSub, Int.reduceEq, Int.reduceBNe, Int.reduceBEq, ne_eq, not_false_eq_true, pc, ls, bs, and_true, true_and, and_self, Nat.reduceAdd, Nat.le_refl, leafP, pv, e1]
set_option maxRecDepth 100000 in
set_option maxHeartbeats 8000000 in
theorem added24_n (a b : Rat) (ha : Sz 4000 a) (hb : Sz 4000 b) : Meets Tryz.prog Gd 32 [rtP a, rtP b, rtP (a + b)] (.val (.bool true)) := by
  refine meets_of_vc (Y := {}) (N := 27) (rs := [.tmp 6]) mix tk gd Tryz.func32 rfl (by kernel_rfl) rfl rfl (by simp) (by kernel_rfl) ?_
  have B := bothq_n (rT a) (rT b) (by have := rT_len ha; omega) (by have := rT_len hb; omega)
  have A := add3_n gd a b (ha.mono (by omega)) (hb.mono (by omega))
  have T := to3_n gd (a + b) ((ha.addT hb).mono (by omega))
  have E : (rT (a + b) == rT (a + b)) = true := beq_self_eq_true _
  rw [isRat_rT, isRat_rT, rdr (isRat_rT a), rdr (isRat_rT b), ratOf_rT, ratOf_rT] at B
  unfold rtP at *
  simp (maxSteps := 10000000) only [↓sx, sx, ↓ty, ↓reduceIte, Nat.reduceEqDiff, Nat.reduceBeqDiff, Nat.reduceAdd, Nat.reduceLeDiff, Nat.reduceLT, Nat.reduceMul, Nat.reduceSub, Int.reduceEq, Int.reduceBNe, Int.reduceBEq, ne_eq, not_false_eq_true, pc, ls, bs, and_true, true_and, and_self, Nat.reduceAdd, Nat.le_refl, leafP, pj]
  refine CallT.mk (t := ⟨⟩) B ?_
  simp (maxSteps := 10000000) only [↓sx, sx, ↓ty, ↓reduceIte, Nat.reduceEqDiff, Nat.reduceBeqDiff, Nat.reduceAdd, Nat.reduceLeDiff, Nat.reduceLT, Nat.reduceMul, Nat.reduceSub, Int.reduceEq, Int.reduceBNe, Int.reduceBEq, ne_eq, not_false_eq_true, pc, ls, bs, and_true, true_and, and_self, Nat.reduceAdd, Nat.le_refl, leafP, pj]
  refine CallT.mk (t := ⟨⟩) A ?_
  simp (maxSteps := 10000000) only [↓sx, sx, ↓ty, ↓reduceIte, Nat.reduceEqDiff, Nat.reduceBeqDiff, Nat.reduceAdd, Nat.reduceLeDiff, Nat.reduceLT, Nat.reduceMul, Nat.reduceSub, Int.reduceEq, Int.reduceBNe, Int.reduceBEq, ne_eq, not_false_eq_true, pc, ls, bs, and_true, true_and, and_self, Nat.reduceAdd, Nat.le_refl, leafP, pj]
  refine CallT.mk (t := ⟨⟩) T ?_
  simp (maxSteps := 10000000) only [↓sx, sx, ↓ty, ↓reduceIte, Nat.reduceEqDiff, Nat.reduceBeqDiff, Nat.reduceAdd, Nat.reduceLeDiff, Nat.reduceLT, Nat.reduceMul, Nat.reduceSub, Int.reduceEq, Int.reduceBNe, Int.reduceBEq, ne_eq, not_false_eq_true, pc, ls, bs, and_true, true_and, and_self, Nat.reduceAdd, Nat.le_refl, leafP, pj, E]
set_option maxRecDepth 100000 in
theorem find1_n (x : Wt) (n : List UInt8) : Meets Tryz.prog Gd 110 [wtP x, .ptr [strP n]] (.val (.bool (x.nm == n))) := by
  refine meets_of_vc (Y := {}) (N := 8) (rs := [.tmp 3]) mix tk gd Tryz.func110 rfl (by kernel_rfl) rfl rfl (by simp) (by kernel_rfl) ?_
  unfold wtP wtC
  simp (maxSteps := 10000000) only [↓sx, sx, ↓ty, ↓reduceIte, Nat.reduceEqDiff, Nat.reduceBeqDiff, Nat.reduceAdd, Nat.reduceLeDiff, Nat.reduceLT, Nat.reduceMul, Nat.reduceSub, Int.reduceEq, Int.reduceBNe, Int.reduceBEq, ne_eq, not_false_eq_true, pc, ls, bs, and_true, true_and, and_self, Nat.reduceAdd, Nat.le_refl, leafP, pv]
set_option maxRecDepth 100000 in
set_option maxHeartbeats 8000000 in
theorem idxW_n (g : FuncId) (n : List UInt8) (l : List Wt) (hl : l.length ≤ 1000000000) (hf : ∀ x, Meets Tryz.prog Gd g [wtP x, .ptr [strP n]] (.val (.bool (x.nm == n)))) :
    Meets Tryz.prog Gd 109 [.sl l.length (recs wtC l), .clo g [] [.ptr [strP n]]] (iP (findI n l)) := by
  refine meets_of_vc (Y := {}) (N := 19) (rs := [.tmp 4]) mix tk gd Tryz.func109 rfl (by kernel_rfl) rfl rfl (by simp) (by kernel_rfl) ?_
  have hlen : (recs wtC l).length = l.length * 7 := recs_len wtC_len l
  simp (maxSteps := 10000000) only [↓sx, sx, ↓ty, ↓reduceIte, Nat.reduceEqDiff, Nat.reduceBeqDiff, Nat.reduceAdd, Nat.reduceLeDiff, Nat.reduceLT, Nat.reduceMul, Nat.reduceSub, Int.reduceEq, Int.reduceBNe, Int.reduceBEq, ne_eq, not_false_eq_true, pc, ls, bs, and_true, true_and, and_self, Nat.reduceAdd, Nat.le_refl, leafP]
  refine loopK_of (fun i : Nat => [(0, .p (.sl l.length (recs wtC l))), (1, .p (.clo g [] [.ptr [strP n]])), (7, .p (.val (.int .i64 (l.length : Nat)))), (8, .p (.val (.int .i64 (i : Nat))))]) (fun _ => []) (fun _ => []) (fun i => i ≤ l.length ∧ ∀ y ∈ l.take i, (y.nm == n) = false) (fun i => l.length - i) 0 ⟨Nat.zero_le _, by simp⟩ ?_ ?_
  · simp (maxSteps := 10000000) only [isE_nil, is_cons, bo_p, bo_box, bo_orow, bo_rowp, any_cons', all_cons', all_nil', Bool.true_or, Bool.or_true, ↓sx, sx, ↓reduceIte, Nat.reduceEqDiff, Nat.reduceBeqDiff]
    first | trivial | rfl | exact ⟨rfl, rfl⟩ | exact ⟨rfl, rfl, rfl⟩ | exact ⟨rfl, rfl, rfl, rfl⟩ | exact ⟨rfl, rfl, rfl, rfl, rfl⟩
  · rintro i ⟨hi, hv⟩
    by_cases hil : i < l.length
    · have e1 : decide ((i : Int) < ((l.length : Nat) : Int)) = true := decide_eq_true (by omega)
      obtain ⟨x, hx⟩ := getA hil
      have hd := wt_drop l i x hx
      have F := hf x
      simp (maxSteps := 10000000) only [↓sx, sx, ↓ty, ↓reduceIte, Nat.reduceEqDiff, Nat.reduceBeqDiff, Nat.reduceAdd, Nat.reduceLeDiff, Nat.reduceLT, Nat.reduceMul, Nat.reduceSub, Int.reduceEq, Int.reduceBNe, Int.reduceBEq, ne_eq, not_false_eq_true, pc, ls, bs, and_true, true_and, and_self, Nat.reduceAdd, Nat.le_refl, leafP, e1, hd, hlen]
      refine ⟨⟨by omega, hil, by omega⟩, ?_⟩
      refine CallT.mk (t := ⟨⟩) F ?_
      cases hfa : x.nm == n with
      | true =>
        simp (maxSteps := 10000000) only [↓sx, sx, ↓ty, ↓reduceIte, Nat.reduceEqDiff, Nat.reduceBeqDiff, Nat.reduceAdd, Nat.reduceLeDiff, Nat.reduceLT, Nat.reduceMul, Nat.reduceSub, Int.reduceEq, Int.reduceBNe, Int.reduceBEq, ne_eq, not_false_eq_true, pc, ls, bs, and_true, true_and, and_self, Nat.reduceAdd, Nat.le_refl, leafP]
        unfold findI
        rw [fnd_at hx hv hfa, Nat.zero_add]
      | false =>
        simp (maxSteps := 10000000) only [↓sx, sx, ↓ty, ↓reduceIte, Nat.reduceEqDiff, Nat.reduceBeqDiff, Nat.reduceAdd, Nat.reduceLeDiff, Nat.reduceLT, Nat.reduceMul, Nat.reduceSub, Int.reduceEq, Int.reduceBNe, Int.reduceBEq, ne_eq, not_false_eq_true, pc, ls, bs, and_true, true_and, and_self, Nat.reduceAdd, Nat.le_refl, leafP]
        refine NextK.mk (i + 1) (by omega) ⟨by omega, ?_⟩ ?_
        · intro y hy
          rw [take_snocA hx] at hy
          rcases List.mem_append.1 hy with hy | hy
          · exact hv y hy
          · rw [List.mem_singleton] at hy; rw [hy]; exact hfa
        · simp (maxSteps := 10000000) only [isE_nil, is_cons, bo_p, bo_box, bo_orow, bo_rowp, any_cons', all_cons', all_nil', Bool.true_or, Bool.or_true, ↓sx, sx, ↓reduceIte, Nat.reduceEqDiff, Nat.reduceBeqDiff]
          rw [i64_id (by omega) (by omega)]
          first | trivial | rfl | exact ⟨rfl, rfl⟩ | exact ⟨rfl, rfl, rfl⟩ | exact ⟨rfl, rfl, rfl, rfl⟩ | exact ⟨rfl, rfl, rfl, rfl, rfl⟩
    · obtain rfl : i = l.length := by omega
      rw [List.take_length] at hv
      have e1 : decide (((l.length : Nat) : Int) < ((l.length : Nat) : Int)) = false := decide_eq_false (by omega)
      simp (maxSteps := 10000000) only [↓sx, sx, ↓ty, ↓reduceIte, Nat.reduceEqDiff, Nat.reduceBeqDiff, Nat.reduceAdd, Nat.reduceLeDiff, Nat.reduceLT, Nat.reduceMul, Nat.reduceSub, Int.reduceEq, Int.reduceBNe, Int.reduceBEq, ne_eq, not_false_eq_true, pc, ls, bs, and_true, true_and, and_self, Nat.reduceAdd, Nat.le_refl, leafP, e1]
      unfold findI
      rw [fnd_none hv]
set_option maxRecDepth 100000 in
theorem lfind_n (n : List UInt8) (l : List Wt) (hl : l.length ≤ 1000000000) : Meets Tryz.prog Gd 73 [.sl l.length (recs wtC l), strP n] (iP (findI n l)) := by
  refine meets_of_vc (Y := {}) (N := 8) (rs := [.tmp 4]) mix tk gd Tryz.func73 rfl (by kernel_rfl) rfl rfl (by simp) (by kernel_rfl) ?_
  simp (maxSteps := 10000000) only [↓sx, sx, ↓ty, ↓reduceIte, Nat.reduceEqDiff, Nat.reduceBeqDiff, Nat.reduceAdd, Nat.reduceLeDiff, Nat.reduceLT, Nat.reduceMul, Nat.reduceSub, Int.reduceEq, Int.reduceBNe, Int.reduceBEq, ne_eq, not_false_eq_true, pc, ls, bs, and_true, true_and, and_self, Nat.reduceAdd, Nat.le_refl, leafP]
  refine CallT.mk (t := ⟨⟩) (idxW_n 110 n l hl (fun x => find1_n x n)) ?_
  simp (maxSteps := 10000000) only [↓sx, sx, ↓ty, ↓reduceIte, Nat.reduceEqDiff, Nat.reduceBeqDiff, Nat.reduceAdd, Nat.reduceLeDiff, Nat.reduceLT, Nat.reduceMul, Nat.reduceSub, Int.reduceEq, Int.reduceBNe, Int.reduceBEq, ne_eq, not_false_eq_true, pc, ls, bs, and_true, true_and, and_self, Nat.reduceAdd, Nat.le_refl, leafP]
end Go.Proofs.YtnlabeglboomlaaGreatDoor.S
namespace Gb
open Go Go.RowKit Go.Sx
def setM {α : Type} : List α → Nat → List α → List α
  | xs, _, [] => xs
  | xs, o, v :: r => setM (xs.set o v) (o + 1) r
theorem setM_eq {α : Type} : ∀ (vs xs : List α) (o : Nat), o + vs.length ≤ xs.length → setM xs o vs = xs.take o ++ vs ++ xs.drop (o + vs.length)
  | [], xs, o, h => by simp [setM]
  | v :: r, xs, o, h => by
    simp only [List.length_cons] at h
    rw [setM, setM_eq r (xs.set o v) (o + 1) (by rw [List.length_set]; omega)]
    have h1 : (xs.set o v).take (o + 1) = xs.take o ++ [v] := by
      rw [List.take_add_one, List.take_set_of_le (Nat.le_refl _), List.getElem?_set_self (by omega)]; rfl
    have h2 : (xs.set o v).drop (o + 1 + r.length) = xs.drop (o + 1 + r.length) := List.drop_set_of_lt (by omega)
    rw [h1, h2, List.length_cons, show o + (r.length + 1) = o + 1 + r.length by omega]
    simp
theorem ownsRow_setCells {b e g sz n cap : Nat} : ∀ (vs : List Value) (o : Nat) (w : World) (xs : List Value), w.ownsRow b e sz (.slice (some ⟨g, 0, none⟩) n cap) n xs →
    (w.setCells g o vs).ownsRow b e sz (.slice (some ⟨g, 0, none⟩) n cap) n (setM xs o vs) ∧ w.grownBy (w.setCells g o vs) (some g)
  | [], o, w, xs, h => ⟨h, Sx.grownBy_refl _ _⟩
  | v :: r, o, w, xs, h => by
    obtain ⟨h1, h2⟩ := h.stored o v
    obtain ⟨h3, h4⟩ := ownsRow_setCells r (o + 1) _ _ h1
    exact ⟨h3, Sx.grownBy_trans h2 h4 (fun k hk => .inl hk)⟩
theorem ownsRow_cut {b e g sz n cap m : Nat} {w : World} {xs : List Value} (h : w.ownsRow b e sz (.slice (some ⟨g, 0, none⟩) n cap) n xs) (hm : m ≤ n) : w.ownsRow b e sz (.slice (some ⟨g, 0, none⟩) m cap) m (xs.take (m * sz)) := by
  have hms : m * sz ≤ n * sz := Nat.mul_le_mul_right _ hm
  refine ⟨by rw [List.length_take, h.1]; omega, ?_⟩
  rcases h.2 with ⟨h', _⟩ | ⟨g', cap', cur, h', hb, hg, hnc, hcm, hcs, htake⟩
  · simp at h'
  · simp only [Value.slice.injEq, Option.some.injEq, Addr.mk.injEq, and_true, true_and] at h'
    obtain ⟨rfl, rfl⟩ := h'
    refine .inr ⟨g, cap, cur, rfl, hb, hg, by omega, hcm, hcs, ?_⟩
    rw [← htake, List.take_take]
    congr 1
    omega
theorem zero_one (z : Array Value) : (Builtin.zeroCells z 1) = z := by
  unfold Builtin.zeroCells
  rw [Nat.one_mul]
  apply Array.ext
  · simp
  · intro i h1 h2
    simp [Nat.mod_eq_of_lt h2, getElem!_pos z i h2]
theorem run_clear_wide {P : Program} (w : World) (t e ty : TypeId) (z : Value) (ht : P.underlying t = some (.slice e)) (hv : ∀ w, (zeroValue e).run P w = .ok z w) (h1 : ∀ u ∈ z.cells.toList, u.oneCell' = true) (b o c : Nat)
    (hc : ∀ j, j < z.cells.toList.length → (w.cell? ⟨b, o + j, none⟩).isSome = true) (hf : ∀ j, j < z.cells.toList.length → w.frozen? ⟨b, o + j, none⟩ = false) :
    (Builtin.clear_ #[t] ty #[.slice (some ⟨b, o, none⟩) 1 c]).run P w = .ok (.tuple #[]) (w.setCells b o z.cells.toList) := by
  have hst := run_storeCells_cells (P := P) b o z.cells.toList 0 w (by simpa using hc) (by simpa using hf) h1
  simp only [Nat.add_zero] at hst
  simp [Builtin.clear_, run_underlying ht, hv, zero_one, hst]
theorem del_cells {us zs : List Value} {n i sz : Nat} (hl : us.length = n * sz) (hi : i < n) (hz : zs.length = sz) :
    (setM (setM us (i * sz) (us.drop ((i + 1) * sz))) ((n - 1) * sz) zs).take ((n - 1) * sz) = us.take (i * sz) ++ us.drop ((i + 1) * sz) := by
  obtain ⟨k, rfl⟩ : ∃ k, n = i + 1 + k := ⟨n - (i + 1), by omega⟩
  have e1 : (i + 1 + k - 1) * sz = i * sz + k * sz := by rw [show i + 1 + k - 1 = i + k by omega, Nat.add_mul]
  have e2 : (i + 1 + k) * sz = i * sz + sz + k * sz := by rw [Nat.add_mul, Nat.add_mul, Nat.one_mul]
  have e3 : (i + 1) * sz = i * sz + sz := by rw [Nat.add_mul, Nat.one_mul]
  rw [e2] at hl
  rw [e1, e3]
  have hd : (us.drop (i * sz + sz)).length = k * sz := by rw [List.length_drop]; omega
  have h1 := setM_eq (us.drop (i * sz + sz)) us (i * sz) (by rw [hd]; omega)
  have hL : (setM us (i * sz) (us.drop (i * sz + sz))).length = us.length := by rw [h1]; simp; omega
  rw [setM_eq zs _ _ (by rw [hL]; omega), List.append_assoc, List.take_append_of_le_length (by rw [List.length_take, hL]; omega), List.take_take, Nat.min_self, h1]
  rw [List.take_append_of_le_length (by simp; omega), List.take_of_length_le (by simp; omega)]
end Gb
namespace Gb
open Go Go.RowKit Go.Sx
theorem recs_cut {α : Type} {c : α → List PV} {k : Nat} (hc : ∀ x, (c x).length = k) (l : List α) (i : Nat) : recs c (l.take i ++ l.drop (i + 1)) = (recs c l).take (i * k) ++ (recs c l).drop ((i + 1) * k) := by
  rw [recs_app, recs_take hc, recs_dropn hc]
end Gb
namespace Go.Proofs.YtnlabeglboomlaaGreatDoor.S
open Go Go.Sx Go.RowKit Gb Go.Shelf
set_option maxRecDepth 1000000 in
set_option maxHeartbeats 4000000 in
theorem del_calls (g cap n i : Nat) (us : List Value) (w : World) (hown : w.ownsRow 0 34 7 (.slice (some ⟨g, 0, none⟩) n cap) n us) (hi : i < n) (hn : n ≤ 1000000) (hnc : n ≤ cap) (hcm : cap ≤ maxLen) (h1 : ∀ u ∈ us, u.oneCell' = true) (z : Value) (hz : ∀ w, (zeroValue 34).run Tryz.prog w = .ok z w) (zs : List Value) (hzs : z.cells.toList = zs) (hz7 : zs.length = 7) (hz1 : ∀ u ∈ zs, u.oneCell' = true) :
    Calls Tryz.prog 74 #[.slice (some ⟨g, 0, none⟩) n cap, .int .i64 i, .int .i64 ((i : Int) + 1)] w fun e w' => e = .returned (.slice (some ⟨g, 0, none⟩) (n - 1) cap) ∧ w' = (w.drew.setCells g (i * 7) (us.drop ((i + 1) * 7))).setCells g ((n - 1) * 7) zs := by
  obtain ⟨ti, hti, hs, hy⟩ : ∃ ti, T 34 = some ti ∧ ti.size = 7 ∧ ti.bytes = 112 := ⟨_, rfl, rfl, rfl⟩
  obtain ⟨ie, zv, i1, i2, i3, i4⟩ := (tk.ok _ _ hti).info
  rw [hs] at i2
  have hu := Tryz.underlying22
  have hlen : us.length = n * 7 := hown.1
  have hM : maxLen = 9223372036854775807 := rfl
  rw [hM] at hcm
  obtain ⟨A, hA, hsrc⟩ : ∃ A : Addr, (if cap = i + 1 then some (⟨g, 0, none⟩ : Addr) else some ⟨g, (i + 1) * 7, none⟩) = some A ∧ Hid (∀ t u, (us.drop ((i + 1) * 7))[t]? = some u → w.drew.cell? (A.add t) = some u) := by
    by_cases h : cap = i + 1
    · refine ⟨⟨g, 0, none⟩, by simp [h], fun t u hu => ?_⟩
      rw [List.drop_of_length_le (by omega)] at hu
      simp at hu
    · refine ⟨⟨g, (i + 1) * 7, none⟩, by simp [h], fun t u hu => ?_⟩
      rw [List.getElem?_drop] at hu
      have ht : (i + 1) * 7 + t < n * 7 := by have := (List.getElem?_eq_some_iff.1 hu).1; omega
      rw [Addr.add_lit]
      exact (hown.cellAt _ ht).trans hu
  have s1 : Hid ((us.drop ((i + 1) * 7)).length = (n - (i + 1)) * 7) := by show (us.drop _).length = _; rw [List.length_drop]; omega
  have s2 : Hid (∀ u ∈ us.drop ((i + 1) * 7), u.oneCell' = true) := fun u hu => h1 u (List.mem_of_mem_drop hu)
  have s3 : Hid (∀ t, t < (us.drop ((i + 1) * 7)).length → (w.drew.cell? ⟨g, 0 + i * 7 + t, none⟩).isSome = true ∧ w.drew.frozen? ⟨g, 0 + i * 7 + t, none⟩ = false) := by
    intro t ht
    rw [List.length_drop] at ht
    refine ⟨?_, hown.frozenAt _⟩
    show (w.cell? _).isSome = true
    rw [hown.cellAt _ (by omega), List.getElem?_eq_getElem (by omega)]
    rfl
  obtain ⟨W1, hW1⟩ : ∃ W1, W1 = w.drew.setCells g (0 + i * 7) (us.drop ((i + 1) * 7)) := ⟨_, rfl⟩
  have hown1 := (ownsRow_setCells (us.drop ((i + 1) * 7)) (0 + i * 7) w.drew us hown.drew).1
  rw [← hW1] at hown1
  have hL : (setM us (0 + i * 7) (us.drop ((i + 1) * 7))).length = n * 7 := hown1.1
  have hcl : ∀ ty, (Builtin.clear_ #[22] ty #[.slice (some ⟨g, (n - 1) * 7, none⟩) 1 (cap - (n - 1))]).run Tryz.prog W1 = .ok (.tuple #[]) (W1.setCells g ((n - 1) * 7) zs) :=
    fun ty => by
      have := run_clear_wide W1 _ _ ty z hu hz (by rw [hzs]; exact hz1) g ((n - 1) * 7) (cap - (n - 1)) (fun t ht => by
        rw [hzs] at ht
        rw [hown1.cellAt _ (by omega), List.getElem?_eq_getElem (by omega)]; rfl) (fun t ht => hown1.frozenAt _)
      rw [hzs] at this
      exact this
  have q1 : i + (n - (i + 1)) = n - 1 := by omega
  have q2 : n - (n - 1) = 1 := by omega
  have hcl' : ∀ ty, (Builtin.clear_ #[22] ty #[.slice (some ⟨g, (i + (n - (i + 1))) * 7, none⟩) (n - (i + (n - (i + 1)))) (cap - (i + (n - (i + 1))))]).run Tryz.prog W1 = .ok (.tuple #[]) (W1.setCells g ((n - 1) * 7) zs) := by
    intro ty
    rw [q1, q2]
    exact hcl ty
  have Q1 : Hid (i + (n - (i + 1)) = n - 1) := q1
  clear hcl q1 q2 hz hzs
  have X : Hid (W1 = w.drew.setCells g (i * 7) (us.drop ((i + 1) * 7))) := by show W1 = _; rw [hW1, Nat.zero_add]
  have hW : Hid (W1 = w.drew.setCells g (0 + i * 7) (us.drop ((i + 1) * 7))) := hW1
  have hic : i ≤ cap := by omega
  have hjc : i + 1 ≤ cap := by omega
  have hp0 : (0 : Int) ≤ (i : Int) + 1 := by omega
  have hp1 : (i : Int) + 1 ≤ (n : Int) := by omega
  have hp2 : ((i : Int) + 1).toNat = i + 1 := by omega
  clear hW1 hown1 hown hL hlen
  go_enter Tryz.func74, Tryz.ntmps74
  go_wp2_with fail
  go_region_law (refine step_append_room rfl (.tmp 22) (.tmp 25) 22 rfl 34 ie 7 hu i1 i2 g 0 i cap (by simp [Act.eval, Act.put]) A (n - (i + 1)) (cap - (i + 1)) (us.drop ((i + 1) * 7)) (by simp [Act.eval, Act.put]) s1.out hsrc.out s2.out (by omega) s3.out ?_; rw [← hW.out])
  go_wp2
  go_ret
  exact ⟨by rw [Q1.out]; rfl, by rw [← X.out]⟩
set_option maxRecDepth 100000 in
set_option maxHeartbeats 4000000 in
theorem del_t (l : List Wt) (i : Nat) (hi : i < l.length) (hn : l.length ≤ 1000000) : MeetsT Tryz.prog Gd 74 ⟨34, 7, l.length, recs wtC l, false⟩ ⟨34, 7, l.length - 1, recs wtC (l.take i ++ l.drop (i + 1)), false⟩ [.val (.int .i64 (i : Nat)), .val (.int .i64 ((i : Int) + 1))] := by
  refine ⟨enters_of Tryz.func74 (by kernel_rfl) rfl, fun B v vs us w hB hown hrep hvs hgr => ?_⟩
  obtain rfl : vs = [.int .i64 (i : Nat), .int .i64 ((i : Int) + 1)] := by simpa [RepL, RepP] using hvs
  obtain ⟨ti, hti, hs, hy⟩ : ∃ ti, T 34 = some ti ∧ ti.size = 7 ∧ ti.bytes = 112 := ⟨_, rfl, rfl, rfl⟩
  have hlen : us.length = l.length * 7 := hown.1
  have hz : ∃ z, (∀ w, (zeroValue 34).run Tryz.prog w = .ok z w) ∧ z.cells.toList.length = 7 ∧ ∀ u ∈ z.cells.toList, u.oneCell' = true := ⟨.agg #[.string ⟨#[]⟩, .string ⟨#[]⟩, .string ⟨#[]⟩, .string ⟨#[]⟩, .string ⟨#[]⟩, .string ⟨#[]⟩, .string ⟨#[]⟩], fun w => by kernel_rfl, rfl, by decide⟩
  obtain ⟨z, hz0, hz7, hz1⟩ := hz
  rcases hown.2 with ⟨hv0, hn0⟩ | ⟨g, cap, cur, hv0, hb, hg, h3, h4, h5, h6⟩
  · have : l.length = 0 := hn0; omega
  · replace hv0 : v = .slice (some ⟨g, 0, none⟩) l.length cap := hv0
    rw [hv0] at hown
    replace hown : w.ownsRow 0 34 7 (.slice (some ⟨g, 0, none⟩) l.length cap) l.length us := hown
    have hob : v.ownBlock = some g := by rw [hv0]; rfl
    rw [hob] at hB
    have C := del_calls g cap l.length i us w hown hi hn h3 h4 (leaf_one hrep (recs_leaf wtC_leaf l)) z hz0 _ rfl hz7 hz1
    rw [hv0]
    refine Calls.mono C ?_
    intro en w' h
    have he := h.1
    have hw := h.2
    clear h
    subst he
    generalize hW : (w.drew.setCells g (i * 7) (us.drop ((i + 1) * 7))).setCells g ((l.length - 1) * 7) z.cells.toList = W at hw
    subst hw
    obtain ⟨o1, g1⟩ := ownsRow_setCells (us.drop ((i + 1) * 7)) (i * 7) w.drew us hown.drew
    obtain ⟨o2, g2⟩ := ownsRow_setCells z.cells.toList ((l.length - 1) * 7) _ _ o1
    rw [hW] at o2 g2
    have o3 := ownsRow_cut o2 (m := l.length - 1) (by omega)
    rw [del_cells hlen hi hz7] at o3
    have g3 : w.grownBy w' (some g) :=
      Sx.grownBy_trans (Sx.grownBy_trans (⟨rfl, rfl, rfl, Nat.le_refl _, fun _ _ _ => rfl⟩ : w.grownBy w.drew (some g)) g1 (fun k hk => .inl hk)) g2 (fun k hk => .inl hk)
    refine ⟨_, _, rfl, g3, o3, ?_, rfl⟩
    show RepL _ _ (recs wtC (l.take i ++ l.drop (i + 1))) _
    rw [recs_cut wtC_len]
    have hm : ∀ b, B b → ((B b ∨ w.heap.size ≤ b) ∧ b < w'.heap.size ∧ some g ≠ some b) ∧ w'.heap[b]? = w.heap[b]? := fun b hb => by
      obtain ⟨k1, k2⟩ := hB b hb
      refine ⟨⟨.inl hb, Nat.lt_of_lt_of_le k1 g3.size, k2⟩, g3.block b k1 (fun e => k2 e.symm)⟩
    exact RepL.append (RepL.mono hm _ _ (RepL.take _ hrep)) (RepL.mono hm _ _ (RepL.drop _ hrep))
end Go.Proofs.YtnlabeglboomlaaGreatDoor.S
namespace Gb
open Go Go.RowKit Go.Sx
def wlP (l : List Wt) : PV := .sl l.length (recs wtC l)
theorem fnd_spec (n : List UInt8) : ∀ (l : List Wt) (k : Nat), fnd n k l = -1 ∨ ∃ i : Nat, i < l.length ∧ fnd n k l = ((k + i : Nat) : Int)
  | [], k => .inl rfl
  | x :: r, k => by
    unfold fnd
    by_cases h : (x.nm == n) = true
    · rw [if_pos h]; exact .inr ⟨0, by simp, by simp⟩
    · rw [if_neg h]
      rcases fnd_spec n r (k + 1) with h1 | ⟨i, h1, h2⟩
      · exact .inl h1
      · exact .inr ⟨i + 1, by simpa using h1, by rw [h2]; congr 1; omega⟩
theorem findI_spec (n : List UInt8) (l : List Wt) : findI n l = -1 ∨ ∃ i : Nat, i < l.length ∧ findI n l = (i : Int) := by
  rcases fnd_spec n l 0 with h | ⟨i, h1, h2⟩
  · exact .inl h
  · exact .inr ⟨i, h1, by unfold findI; rw [h2, Nat.zero_add]⟩
def cut (i : Nat) (l : List Wt) : List Wt := l.take i ++ l.drop (i + 1)
theorem cut_len {i : Nat} {l : List Wt} (h : i < l.length) : (cut i l).length = l.length - 1 := by
  unfold cut; rw [List.length_append, List.length_take, List.length_drop]; omega
def remP (l : List Wt) (n : List UInt8) : PV := if check24 l = 0 then (if findI n l < 0 then .tup [.sl 0 [], iP 7] else .tup [wlP (cut (findI n l).toNat l), iP 0]) else .tup [.sl 0 [], iP (check24 l)]
def addP (l : List Wt) (w : Wt) : PV := if check24 l = 0 then (if l.length = 64 then .tup [.sl 0 [], iP 12] else if check24 (l ++ [w]) = 0 then .tup [wlP (l ++ [w]), iP 0] else .tup [.sl 0 [], iP (check24 (l ++ [w]))]) else .tup [.sl 0 [], iP (check24 l)]
end Gb
namespace Go.Proofs.YtnlabeglboomlaaGreatDoor.S
open Go Go.Sx Go.RowKit Gb Go.Shelf
set_option maxRecDepth 100000 in
set_option maxHeartbeats 8000000 in
theorem lremove_n (l : List Wt) (n : List UInt8) (hb : ∀ x ∈ l, x.lt 20000) : Meets Tryz.prog Gd 29 [wlP l, strP n] (remP l n) := by
  refine meets_of_vc (Y := { fc := [14], tc := [74], em := [22] }) (N := 24) (rs := [.tmp 4, .tmp 5]) mix tk gd Tryz.func29 rfl (by kernel_rfl) rfl rfl (by simp) (by kernel_rfl) ?_
  have C := lcheck_n l hb
  unfold remP wlP
  by_cases h0 : check24 l = 0
  · obtain ⟨h64, hf⟩ := check24_ok h0
    have F := lfind_n n l (by omega)
    rw [h0] at C
    rw [if_pos h0]
    rcases findI_spec n l with hi | ⟨i, hil, hi⟩
    · rw [hi] at F ⊢
      rw [if_pos (by omega)]
      simp (maxSteps := 10000000) only [↓sx, sx, ↓ty, ↓reduceIte, Nat.reduceEqDiff, Nat.reduceBeqDiff, Nat.reduceAdd, Nat.reduceLeDiff, Nat.reduceLT, Nat.reduceMul, Nat.reduceSub, Int.reduceEq, Int.reduceBNe, Int.reduceBEq, ne_eq, not_false_eq_true, pc, ls, bs, and_true, true_and, and_self, Nat.reduceAdd, Nat.le_refl, leafP]
      refine CallT.mk (t := ⟨⟩) C ?_
      simp (maxSteps := 10000000) only [↓sx, sx, ↓ty, ↓reduceIte, Nat.reduceEqDiff, Nat.reduceBeqDiff, Nat.reduceAdd, Nat.reduceLeDiff, Nat.reduceLT, Nat.reduceMul, Nat.reduceSub, Int.reduceEq, Int.reduceBNe, Int.reduceBEq, ne_eq, not_false_eq_true, pc, ls, bs, and_true, true_and, and_self, Nat.reduceAdd, Nat.le_refl, leafP]
      refine CallT.mk (t := ⟨⟩) F ?_
      have e1 : decide ((-1 : Int) < 0) = true := rfl
      simp (maxSteps := 10000000) only [↓sx, sx, ↓ty, ↓reduceIte, Nat.reduceEqDiff, Nat.reduceBeqDiff, Nat.reduceAdd, Nat.reduceLeDiff, Nat.reduceLT, Nat.reduceMul, Nat.reduceSub, Int.reduceEq, Int.reduceBNe, Int.reduceBEq, ne_eq, not_false_eq_true, pc, ls, bs, and_true, true_and, and_self, Nat.reduceAdd, Nat.le_refl, leafP, e1]
    · rw [hi] at F ⊢
      rw [if_neg (by omega), Int.toNat_natCast]
      have e1 : decide ((i : Int) < 0) = false := decide_eq_false (by omega)
      simp (maxSteps := 10000000) only [↓sx, sx, ↓ty, ↓reduceIte, Nat.reduceEqDiff, Nat.reduceBeqDiff, Nat.reduceAdd, Nat.reduceLeDiff, Nat.reduceLT, Nat.reduceMul, Nat.reduceSub, Int.reduceEq, Int.reduceBNe, Int.reduceBEq, ne_eq, not_false_eq_true, pc, ls, bs, and_true, true_and, and_self, Nat.reduceAdd, Nat.le_refl, leafP]
      refine CallT.mk (t := ⟨⟩) C ?_
      simp (maxSteps := 10000000) only [↓sx, sx, ↓ty, ↓reduceIte, Nat.reduceEqDiff, Nat.reduceBeqDiff, Nat.reduceAdd, Nat.reduceLeDiff, Nat.reduceLT, Nat.reduceMul, Nat.reduceSub, Int.reduceEq, Int.reduceBNe, Int.reduceBEq, ne_eq, not_false_eq_true, pc, ls, bs, and_true, true_and, and_self, Nat.reduceAdd, Nat.le_refl, leafP]
      refine CallT.mk (t := ⟨⟩) F ?_
      simp (maxSteps := 10000000) only [↓sx, sx, ↓ty, ↓reduceIte, Nat.reduceEqDiff, Nat.reduceBeqDiff, Nat.reduceAdd, Nat.reduceLeDiff, Nat.reduceLT, Nat.reduceMul, Nat.reduceSub, Int.reduceEq, Int.reduceBNe, Int.reduceBEq, ne_eq, not_false_eq_true, pc, ls, bs, and_true, true_and, and_self, Nat.reduceAdd, Nat.le_refl, leafP, e1]
      refine CallFT.mk (t := ⟨⟩) (cloneW_r l (by omega)) ?_
      simp (maxSteps := 10000000) only [↓sx, sx, ↓ty, ↓reduceIte, Nat.reduceEqDiff, Nat.reduceBeqDiff, Nat.reduceAdd, Nat.reduceLeDiff, Nat.reduceLT, Nat.reduceMul, Nat.reduceSub, Int.reduceEq, Int.reduceBNe, Int.reduceBEq, ne_eq, not_false_eq_true, pc, ls, bs, and_true, true_and, and_self, Nat.reduceAdd, Nat.le_refl, leafP]
      rw [i64_id (by omega) (by omega)]
      refine CallTT.mk (t := ⟨⟩) (del_t l i hil (by omega)) ?_
      simp (maxSteps := 10000000) only [↓sx, sx, ↓ty, ↓reduceIte, Nat.reduceEqDiff, Nat.reduceBeqDiff, Nat.reduceAdd, Nat.reduceLeDiff, Nat.reduceLT, Nat.reduceMul, Nat.reduceSub, Int.reduceEq, Int.reduceBNe, Int.reduceBEq, ne_eq, not_false_eq_true, pc, ls, bs, and_true, true_and, and_self, Nat.reduceAdd, Nat.le_refl, leafP]
      rw [cut_len hil]
      rfl
  · have d0 : (check24 l != 0) = true := by simp [h0]
    rw [if_neg h0]
    simp (maxSteps := 10000000) only [↓sx, sx, ↓ty, ↓reduceIte, Nat.reduceEqDiff, Nat.reduceBeqDiff, Nat.reduceAdd, Nat.reduceLeDiff, Nat.reduceLT, Nat.reduceMul, Nat.reduceSub, Int.reduceEq, Int.reduceBNe, Int.reduceBEq, ne_eq, not_false_eq_true, pc, ls, bs, and_true, true_and, and_self, Nat.reduceAdd, Nat.le_refl, leafP]
    refine CallT.mk (t := ⟨⟩) C ?_
    simp (maxSteps := 10000000) only [↓sx, sx, ↓ty, ↓reduceIte, Nat.reduceEqDiff, Nat.reduceBeqDiff, Nat.reduceAdd, Nat.reduceLeDiff, Nat.reduceLT, Nat.reduceMul, Nat.reduceSub, Int.reduceEq, Int.reduceBNe, Int.reduceBEq, ne_eq, not_false_eq_true, pc, ls, bs, and_true, true_and, and_self, Nat.reduceAdd, Nat.le_refl, leafP, d0]
end Go.Proofs.YtnlabeglboomlaaGreatDoor.S
namespace Gb
open Go Go.RowKit Go.Sx
theorem la : (∀ (α : Type) (a : α) (l m : List α), List.append (a :: l) m = a :: List.append l m) ∧ (∀ (α : Type) (m : List α), List.append [] m = m) := ⟨fun _ _ _ _ => rfl, fun _ _ => rfl⟩
end Gb
namespace Go.Proofs.YtnlabeglboomlaaGreatDoor.S
open Go Go.Sx Go.RowKit Gb Go.Shelf
end Go.Proofs.YtnlabeglboomlaaGreatDoor.S
namespace Gb
open Go Go.RowKit Go.Sx
def hull : Wt := ⟨[104, 117, 108, 108], [51, 48], ⟨[53], [48], [49]⟩, [48], [49, 48]⟩
def crane : Wt := ⟨[99, 114, 97, 110, 101], [49, 48], ⟨[56], [49], [52]⟩, [55], [57]⟩
def ex24 : List Wt := [hull, crane]
theorem ex24_s : ∀ w ∈ ex24, w.s := by
  intro w hw
  unfold ex24 at hw
  rcases List.mem_cons.1 hw with rfl | hw
  · exact ⟨by decide, by decide, ⟨by decide, by decide, by decide⟩, by decide, by decide⟩
  · rw [List.mem_singleton] at hw; subst hw; exact ⟨by decide, by decide, ⟨by decide, by decide, by decide⟩, by decide, by decide⟩
theorem vq_eq {a : Vq} {x y z : Rat} (h : (decide (a.x = x) && decide (a.y = y) && decide (a.z = z)) = true) : a = ⟨x, y, z⟩ := by
  cases a; simp at h; simp [h]
theorem ex24_c : check24 ex24 = 0 := by decide +kernel
theorem ex24_t : totalP ex24 = .tup [strP [52, 48], .agg [strP [50, 51, 48], strP [49, 48], strP [55, 48]], iP 0] := by
  unfold totalP
  rw [if_pos ex24_c, show totM ex24 = 40 by decide +kernel, show totV ex24 = ⟨230, 10, 70⟩ from vq_eq (by decide +kernel)]
  unfold vqP
  rw [(cst [52, 48] 40 (by decide +kernel)).1, (cst [50, 51, 48] 230 (by decide +kernel)).1, (cst [49, 48] 10 (by decide +kernel)).1, (cst [55, 48] 70 (by decide +kernel)).1]
theorem ex24_m : centreP ex24 = .tup [.agg [strP [50, 51, 47, 52], strP [49, 47, 52], strP [55, 47, 52]], iP 0] := by
  unfold centreP
  rw [if_pos ex24_c, show totM ex24 = 40 by decide +kernel, show totV ex24 = ⟨230, 10, 70⟩ from vq_eq (by decide +kernel), if_neg (by decide +kernel), show Vq.scale ⟨230, 10, 70⟩ (1 / 40 : Rat) = ⟨23 / 4, 1 / 4, 7 / 4⟩ from vq_eq (by decide +kernel)]
  unfold vqP
  rw [(cst [50, 51, 47, 52] (23 / 4) (by decide +kernel)).1, (cst [49, 47, 52] (1 / 4) (by decide +kernel)).1, (cst [55, 47, 52] (7 / 4) (by decide +kernel)).1]
theorem ex24_a : aftP ex24 [56] = .tup [strP [50, 57], iP 0] := by
  unfold aftP
  rw [if_pos ex24_c, if_pos (by decide +kernel), show aftS (ratOf [56]) ex24 = 29 by decide +kernel, (cst [50, 57] 29 (by decide +kernel)).1]
theorem ex24_r : remP ex24 [104, 117, 108, 108] = .tup [wlP [crane], iP 0] := by
  unfold remP
  rw [if_pos ex24_c, show findI [104, 117, 108, 108] ex24 = 0 by decide, if_neg (by decide)]
  rfl
end Gb
namespace Go.Proofs.YtnlabeglboomlaaGreatDoor.S
open Go Go.Sx Go.RowKit Gb Go.Shelf
set_option maxRecDepth 100000 in
theorem example24_n : Meets Tryz.prog Gd 41 [] (.sl ex24.length (recs wtC ex24)) := by
  refine meets_of_vc (Y := { em := [22] }) (N := 6) (rs := [.tmp 0]) mix tk gd Tryz.func41 rfl (by kernel_rfl) rfl rfl (by simp) (by kernel_rfl) ?_
  simp (maxSteps := 10000000) only [↓sx, sx, ↓ty, ↓reduceIte, Nat.reduceEqDiff, Nat.reduceBeqDiff, Nat.reduceAdd, Nat.reduceLeDiff, Nat.reduceLT, Nat.reduceMul, Nat.reduceSub, Int.reduceEq, Int.reduceBNe, Int.reduceBEq, ne_eq, not_false_eq_true, pc, ls, bs, and_true, true_and, and_self, Nat.reduceAdd, Nat.le_refl, leafP]
  rfl
set_option maxRecDepth 100000 in
set_option maxHeartbeats 8000000 in
theorem awake24_n : Meets Tryz.prog Gd 10 [] (.val (.bool true)) := by
  refine meets_of_vc (Y := { em := [22] }) (N := 71) (rs := [.tmp 0]) mix tk gd Tryz.func10 rfl (by kernel_rfl) rfl rfl (by simp) (by kernel_rfl) ?_
  have E := example24_n
  have hs := ex24_s
  have T := ltotal_n ex24 (fun w hw => (hs w hw).b)
  have M := lcentre_n ex24 (fun w hw => (hs w hw).b)
  have A := laft_n ex24 [56] hs (by simp)
  have R := lremove_n ex24 [104, 117, 108, 108] (fun w hw => (hs w hw).b.lt)
  rw [ex24_t] at T
  rw [ex24_m] at M
  rw [ex24_a] at A
  rw [ex24_r] at R
  unfold wlP at R
  have d0 : recs wtC [crane] = [.val (.string ⟨crane.nm.toArray⟩), .val (.string ⟨crane.m.toArray⟩), .val (.string ⟨crane.c.x.toArray⟩), .val (.string ⟨crane.c.y.toArray⟩), .val (.string ⟨crane.c.z.toArray⟩), .val (.string ⟨crane.fr.toArray⟩), .val (.string ⟨crane.tt.toArray⟩)] := rfl
  have b1 : (((1 : Nat) : Int) == 1) = true := rfl
  have l1 : [crane].length = 1 := rfl
  rw [d0, l1] at R
  have d1 : (recs wtC ex24).drop 7 = _ := wt_drop ex24 1 crane rfl
  have t1 : Int.toNat 1 = 1 := rfl
  have t7 : 1 * 7 = 7 := rfl
  have n1 : ex24.length = 2 := rfl
  have n2 : (recs wtC ex24).length = 14 := rfl
  clear hs
  generalize ex24 = X at *
  generalize crane = Y at *
  simp (maxSteps := 10000000) only [↓sx, sx, ↓ty, ↓reduceIte, Nat.reduceEqDiff, Nat.reduceBeqDiff, Nat.reduceAdd, Nat.reduceLeDiff, Nat.reduceLT, Nat.reduceMul, Nat.reduceSub, Int.reduceEq, Int.reduceBNe, Int.reduceBEq, ne_eq, not_false_eq_true, pc, ls, bs, and_true, true_and, and_self, Nat.reduceAdd, Nat.le_refl, leafP, pv, la]
  refine CallT.mk (t := ⟨⟩) E ?_
  simp (maxSteps := 10000000) only [↓sx, sx, ↓ty, ↓reduceIte, Nat.reduceEqDiff, Nat.reduceBeqDiff, Nat.reduceAdd, Nat.reduceLeDiff, Nat.reduceLT, Nat.reduceMul, Nat.reduceSub, Int.reduceEq, Int.reduceBNe, Int.reduceBEq, ne_eq, not_false_eq_true, pc, ls, bs, and_true, true_and, and_self, Nat.reduceAdd, Nat.le_refl, leafP, pv, la]
  refine CallT.mk (t := ⟨⟩) T ?_
  simp (maxSteps := 10000000) only [↓sx, sx, ↓ty, ↓reduceIte, Nat.reduceEqDiff, Nat.reduceBeqDiff, Nat.reduceAdd, Nat.reduceLeDiff, Nat.reduceLT, Nat.reduceMul, Nat.reduceSub, Int.reduceEq, Int.reduceBNe, Int.reduceBEq, ne_eq, not_false_eq_true, pc, ls, bs, and_true, true_and, and_self, Nat.reduceAdd, Nat.le_refl, leafP, pv, la]
  refine CallT.mk (t := ⟨⟩) E ?_
  simp (maxSteps := 10000000) only [↓sx, sx, ↓ty, ↓reduceIte, Nat.reduceEqDiff, Nat.reduceBeqDiff, Nat.reduceAdd, Nat.reduceLeDiff, Nat.reduceLT, Nat.reduceMul, Nat.reduceSub, Int.reduceEq, Int.reduceBNe, Int.reduceBEq, ne_eq, not_false_eq_true, pc, ls, bs, and_true, true_and, and_self, Nat.reduceAdd, Nat.le_refl, leafP, pv, la]
  refine CallT.mk (t := ⟨⟩) M ?_
  simp (maxSteps := 10000000) only [↓sx, sx, ↓ty, ↓reduceIte, Nat.reduceEqDiff, Nat.reduceBeqDiff, Nat.reduceAdd, Nat.reduceLeDiff, Nat.reduceLT, Nat.reduceMul, Nat.reduceSub, Int.reduceEq, Int.reduceBNe, Int.reduceBEq, ne_eq, not_false_eq_true, pc, ls, bs, and_true, true_and, and_self, Nat.reduceAdd, Nat.le_refl, leafP, pv, la]
  refine CallT.mk (t := ⟨⟩) E ?_
  simp (maxSteps := 10000000) only [↓sx, sx, ↓ty, ↓reduceIte, Nat.reduceEqDiff, Nat.reduceBeqDiff, Nat.reduceAdd, Nat.reduceLeDiff, Nat.reduceLT, Nat.reduceMul, Nat.reduceSub, Int.reduceEq, Int.reduceBNe, Int.reduceBEq, ne_eq, not_false_eq_true, pc, ls, bs, and_true, true_and, and_self, Nat.reduceAdd, Nat.le_refl, leafP, pv, la]
  refine CallT.mk (t := ⟨⟩) A ?_
  simp (maxSteps := 10000000) only [↓sx, sx, ↓ty, ↓reduceIte, Nat.reduceEqDiff, Nat.reduceBeqDiff, Nat.reduceAdd, Nat.reduceLeDiff, Nat.reduceLT, Nat.reduceMul, Nat.reduceSub, Int.reduceEq, Int.reduceBNe, Int.reduceBEq, ne_eq, not_false_eq_true, pc, ls, bs, and_true, true_and, and_self, Nat.reduceAdd, Nat.le_refl, leafP, pv, la]
  refine CallT.mk (t := ⟨⟩) E ?_
  simp (maxSteps := 10000000) only [↓sx, sx, ↓ty, ↓reduceIte, Nat.reduceEqDiff, Nat.reduceBeqDiff, Nat.reduceAdd, Nat.reduceLeDiff, Nat.reduceLT, Nat.reduceMul, Nat.reduceSub, Int.reduceEq, Int.reduceBNe, Int.reduceBEq, ne_eq, not_false_eq_true, pc, ls, bs, and_true, true_and, and_self, Nat.reduceAdd, Nat.le_refl, leafP, pv, la]
  refine CallT.mk (t := ⟨⟩) R ?_
  simp (maxSteps := 10000000) only [↓sx, sx, ↓ty, ↓reduceIte, Nat.reduceEqDiff, Nat.reduceBeqDiff, Nat.reduceAdd, Nat.reduceLeDiff, Nat.reduceLT, Nat.reduceMul, Nat.reduceSub, Int.reduceEq, Int.reduceBNe, Int.reduceBEq, ne_eq, not_false_eq_true, pc, ls, bs, and_true, true_and, and_self, Nat.reduceAdd, Nat.le_refl, leafP, pv, la, ag, beq_self_eq_true, w4, Int.reduceAdd, b1]
  refine ⟨by decide, ?_⟩
  refine CallT.mk (t := ⟨⟩) E ?_
  simp (maxSteps := 10000000) only [↓sx, sx, ↓ty, ↓reduceIte, Nat.reduceEqDiff, Nat.reduceBeqDiff, Nat.reduceAdd, Nat.reduceLeDiff, Nat.reduceLT, Nat.reduceMul, Nat.reduceSub, Int.reduceEq, Int.reduceBNe, Int.reduceBEq, ne_eq, not_false_eq_true, pc, ls, bs, and_true, true_and, and_self, Nat.reduceAdd, Nat.le_refl, leafP, pv, la, ag, beq_self_eq_true, w4, Int.reduceAdd, b1, d1, n1, n2, t1, t7]
  decide
end Go.Proofs.YtnlabeglboomlaaGreatDoor.S
namespace Gb
open Go Go.RowKit Go.Sx
theorem str_eta (s : ByteArray) : (⟨s.data.toList.toArray⟩ : ByteArray) = s := by cases s; simp
theorem fit_str {x : PV} (h : Fit1 .str x) : ∃ a : List UInt8, x = strP a ∧ a.length ≤ maxLen := by
  simp only [Fit1, Fit] at h
  obtain ⟨s, h1, h2⟩ := h
  rw [List.cons.injEq] at h1
  exact ⟨s.data.toList, by rw [h1.1]; unfold strP; rw [str_eta], by rw [Array.length_toList]; exact h2⟩
theorem fita_nil {xs : List PV} (h : FitA [] xs) : xs = [] := h
theorem fita_cons {s : Sh} {l : List Sh} {xs : List PV} (h : FitA (s :: l) xs) : ∃ y ys, xs = y :: ys ∧ Fit1 s y ∧ FitA l ys := h
end Gb
namespace Gb
open Go Go.RowKit Go.Sx
abbrev shW : Sh := .agg [.str, .str, .agg [.str, .str, .str], .str, .str]
theorem fits_wt {cs : List PV} (h : Fits [.str, .str, .agg [.str, .str, .str], .str, .str] cs) : ∃ w : Wt, cs = wtC w := by
  simp only [Fits, Fit] at h
  obtain ⟨_, _, rfl, ⟨a, rfl, _⟩, _, _, rfl, ⟨b, rfl, _⟩, _, _, rfl, ⟨_, _, rfl, ⟨x, rfl, _⟩, _, _, rfl, ⟨y, rfl, _⟩, _, _, rfl, ⟨z, rfl, _⟩, rfl⟩, _, _, rfl, ⟨c, rfl, _⟩, _, _, rfl, ⟨d, rfl, _⟩, rfl⟩ := h
  exact ⟨⟨a.data.toList, b.data.toList, ⟨x.data.toList, y.data.toList, z.data.toList⟩, c.data.toList, d.data.toList⟩, by simp only [wtC, str_eta]; rfl⟩
theorem fit_wt {x : PV} (h : Fit1 shW x) : ∃ w : Wt, x = wtP w := by
  obtain ⟨cs, rfl, h⟩ := h
  obtain ⟨w, rfl⟩ := fits_wt h
  exact ⟨w, rfl⟩
theorem wts_of : ∀ {ls : List (List PV)}, (∀ x ∈ ls, Fit shW x) → ∃ l : List Wt, ls.flatten = recs wtC l ∧ l.length = ls.length
  | [], _ => ⟨[], rfl, rfl⟩
  | x :: ls, h => by
    have h1 := h x (List.mem_cons_self ..)
    simp only [Fit] at h1
    obtain ⟨w, rfl⟩ := fits_wt h1
    obtain ⟨l, h2, h3⟩ := wts_of fun y hy => h y (List.mem_cons_of_mem _ hy)
    exact ⟨w :: l, by rw [List.flatten_cons, h2]; rfl, by simp [h3]⟩
theorem fit_wts {x : PV} (h : Fit1 (.sl shW) x) : ∃ l : List Wt, x = .sl l.length (recs wtC l) ∧ l.length ≤ 9223372036854775807 := by
  simp only [Fit1, Fit] at h
  obtain ⟨ls, h1, h2, h3⟩ := h
  rw [List.cons.injEq] at h1
  obtain ⟨l, h4, h5⟩ := wts_of (ls := ls) (fun y hy => by have := h3 y hy; simpa only [Fit] using this)
  exact ⟨l, by rw [h1.1, h4, h5], by have : maxLen = 9223372036854775807 := rfl; omega⟩
end Gb
namespace Go.Proofs.YtnlabeglboomlaaGreatDoor.S
open Go Go.Sx Go.RowKit Gb Go.Shelf
end Go.Proofs.YtnlabeglboomlaaGreatDoor.S
namespace Gb
open Go Go.RowKit Go.Sx
theorem recs_one (l : List Wt) (w : Wt) : recs wtC (l ++ [w]) = recs wtC l ++ [.val (.string ⟨w.nm.toArray⟩), .val (.string ⟨w.m.toArray⟩), .val (.string ⟨w.c.x.toArray⟩), .val (.string ⟨w.c.y.toArray⟩), .val (.string ⟨w.c.z.toArray⟩), .val (.string ⟨w.fr.toArray⟩), .val (.string ⟨w.tt.toArray⟩)] := by
  rw [recs_app]; simp [recs, wtC]
theorem wtP_c (w : Wt) : wtP w = .agg [.val (.string ⟨w.nm.toArray⟩), .val (.string ⟨w.m.toArray⟩), .val (.string ⟨w.c.x.toArray⟩), .val (.string ⟨w.c.y.toArray⟩), .val (.string ⟨w.c.z.toArray⟩), .val (.string ⟨w.fr.toArray⟩), .val (.string ⟨w.tt.toArray⟩)] := rfl
end Gb
namespace Go.Proofs.YtnlabeglboomlaaGreatDoor.S
open Go Go.Sx Go.RowKit Gb Go.Shelf
set_option maxRecDepth 100000 in
set_option maxHeartbeats 8000000 in
theorem ladd24_n (l : List Wt) (w : Wt) (hb : ∀ x ∈ l, x.lt 20000) (hw : w.lt 20000) : Meets Tryz.prog Gd 27 [.sl l.length (recs wtC l), wtP w] (addP l w) := by
  refine meets_of_vc (Y := { fc := [14], ex := [6], en := [(6, .free 0 (.alt 1 (.step 2 (.step 3 (.step 4 (.step 5 .done)))) (.step 2 (.alt 1 (.step 3 (.step 4 (.step 5 .done))) (.step 3 (.step 1 (.step 4 (.step 5 .done))))))))], bw := [7], em := [22] }) (N := 28) (rs := [.tmp 4, .tmp 5]) mix tk gd Tryz.func27 rfl (by kernel_rfl) rfl rfl (by simp) (by kernel_rfl) ?_
  have C := lcheck_n l hb
  unfold addP wlP
  by_cases h0 : check24 l = 0
  · obtain ⟨h64, hf⟩ := check24_ok h0
    rw [h0] at C
    rw [if_pos h0]
    by_cases h1 : l.length = 64
    · have e1 : (((l.length : Nat) : Int) == 64) = true := by rw [beq_iff_eq]; omega
      rw [if_pos h1]
      simp (maxSteps := 10000000) only [↓sx, sx, ↓ty, ↓reduceIte, Nat.reduceEqDiff, Nat.reduceBeqDiff, Nat.reduceAdd, Nat.reduceLeDiff, Nat.reduceLT, Nat.reduceMul, Nat.reduceSub, Int.reduceEq, Int.reduceBNe, Int.reduceBEq, ne_eq, not_false_eq_true, pc, ls, bs, and_true, true_and, and_self, Nat.reduceAdd, Nat.le_refl, leafP, pv]
      refine CallT.mk (t := ⟨⟩) C ?_
      simp (maxSteps := 10000000) only [↓sx, sx, ↓ty, ↓reduceIte, Nat.reduceEqDiff, Nat.reduceBeqDiff, Nat.reduceAdd, Nat.reduceLeDiff, Nat.reduceLT, Nat.reduceMul, Nat.reduceSub, Int.reduceEq, Int.reduceBNe, Int.reduceBEq, ne_eq, not_false_eq_true, pc, ls, bs, and_true, true_and, and_self, Nat.reduceAdd, Nat.le_refl, leafP, pv, e1]
    · have e1 : (((l.length : Nat) : Int) == 64) = false := by rw [beq_eq_false_iff_ne]; omega
      have hlen : (recs wtC l).length = l.length * 7 := recs_len wtC_len l
      have hleaf : (recs wtC l).all leafP = true := recs_leaf wtC_leaf l
      have D := lcheck_n (l ++ [w]) (fun x hx => by
        rcases List.mem_append.1 hx with hx | hx
        · exact hb x hx
        · rw [List.mem_singleton] at hx; rw [hx]; exact hw)
      have hll : (l ++ [w]).length = l.length + 1 := by simp
      rw [recs_one, hll] at D
      rw [if_neg h1, recs_one, hll]
      have K := cloneW_r l (by omega)
      rw [wtP_c]
      simp (maxSteps := 10000000) only [↓sx, sx, ↓ty, ↓reduceIte, Nat.reduceEqDiff, Nat.reduceBeqDiff, Nat.reduceAdd, Nat.reduceLeDiff, Nat.reduceLT, Nat.reduceMul, Nat.reduceSub, Int.reduceEq, Int.reduceBNe, Int.reduceBEq, ne_eq, not_false_eq_true, pc, ls, bs, and_true, true_and, and_self, Nat.reduceAdd, Nat.le_refl, leafP, pv]
      refine CallT.mk (t := ⟨⟩) C ?_
      simp (maxSteps := 10000000) only [↓sx, sx, ↓ty, ↓reduceIte, Nat.reduceEqDiff, Nat.reduceBeqDiff, Nat.reduceAdd, Nat.reduceLeDiff, Nat.reduceLT, Nat.reduceMul, Nat.reduceSub, Int.reduceEq, Int.reduceBNe, Int.reduceBEq, ne_eq, not_false_eq_true, pc, ls, bs, and_true, true_and, and_self, Nat.reduceAdd, Nat.le_refl, leafP, pv, e1]
      refine ⟨by kernel_rfl, ?_⟩
      refine ⟨?_, ?_, ?_⟩
      all_goals (
        refine CallFT.mk (t := ⟨⟩) K ?_
        simp (maxSteps := 10000000) only [↓sx, sx, ↓ty, ↓reduceIte, Nat.reduceEqDiff, Nat.reduceBeqDiff, Nat.reduceAdd, Nat.reduceLeDiff, Nat.reduceLT, Nat.reduceMul, Nat.reduceSub, Int.reduceEq, Int.reduceBNe, Int.reduceBEq, ne_eq, not_false_eq_true, pc, ls, bs, and_true, true_and, and_self, Nat.reduceAdd, Nat.le_refl, leafP, pv]
        refine ⟨⟨by have : maxLen = 9223372036854775807 := rfl; omega, by omega⟩, ?_⟩
        refine CallT.mk (t := ⟨⟩) D ?_
        by_cases h2 : check24 (l ++ [w]) = 0
        · rw [h2, if_pos rfl]
          simp (maxSteps := 10000000) only [↓sx, sx, ↓ty, ↓reduceIte, Nat.reduceEqDiff, Nat.reduceBeqDiff, Nat.reduceAdd, Nat.reduceLeDiff, Nat.reduceLT, Nat.reduceMul, Nat.reduceSub, Int.reduceEq, Int.reduceBNe, Int.reduceBEq, ne_eq, not_false_eq_true, pc, ls, bs, and_true, true_and, and_self, Nat.reduceAdd, Nat.le_refl, leafP, pv]
          try rfl
        · have d0 : (check24 (l ++ [w]) != 0) = true := by simp [h2]
          rw [if_neg h2]
          generalize check24 (l ++ [w]) = ck at *
          simp (maxSteps := 10000000) only [↓sx, sx, ↓ty, ↓reduceIte, Nat.reduceEqDiff, Nat.reduceBeqDiff, Nat.reduceAdd, Nat.reduceLeDiff, Nat.reduceLT, Nat.reduceMul, Nat.reduceSub, Int.reduceEq, Int.reduceBNe, Int.reduceBEq, ne_eq, not_false_eq_true, pc, ls, bs, and_true, true_and, and_self, Nat.reduceAdd, Nat.le_refl, leafP, pv, d0])
  · have d0 : (check24 l != 0) = true := by simp [h0]
    rw [if_neg h0]
    simp (maxSteps := 10000000) only [↓sx, sx, ↓ty, ↓reduceIte, Nat.reduceEqDiff, Nat.reduceBeqDiff, Nat.reduceAdd, Nat.reduceLeDiff, Nat.reduceLT, Nat.reduceMul, Nat.reduceSub, Int.reduceEq, Int.reduceBNe, Int.reduceBEq, ne_eq, not_false_eq_true, pc, ls, bs, and_true, true_and, and_self, Nat.reduceAdd, Nat.le_refl, leafP, pv]
    refine CallT.mk (t := ⟨⟩) C ?_
    simp (maxSteps := 10000000) only [↓sx, sx, ↓ty, ↓reduceIte, Nat.reduceEqDiff, Nat.reduceBeqDiff, Nat.reduceAdd, Nat.reduceLeDiff, Nat.reduceLT, Nat.reduceMul, Nat.reduceSub, Int.reduceEq, Int.reduceBNe, Int.reduceBEq, ne_eq, not_false_eq_true, pc, ls, bs, and_true, true_and, and_self, Nat.reduceAdd, Nat.le_refl, leafP, pv, d0]
end Go.Proofs.YtnlabeglboomlaaGreatDoor.S
namespace Gb
open Go Go.RowKit Go.Sx
theorem chkI_snoc (w : Wt) : ∀ (l : List Wt) (s : List (List UInt8)), chkI s l = 0 → chkI s (l ++ [w]) = chkI ((l.map (·.nm)).reverse ++ s) [w]
  | [], s, _ => rfl
  | x :: r, s, h => by
    rw [chkI_cons] at h
    split at h
    · rename_i hf
      split at h
      · omega
      · rename_i hc
        rw [List.cons_append, chkI_cons, if_pos hf, if_neg hc, chkI_snoc w r _ h, List.map_cons, List.reverse_cons, List.append_assoc]; rfl
    · rename_i hf; exact absurd h hf
theorem check24_snoc {l : List Wt} (w : Wt) (h : check24 l = 0) (hl : l.length < 64) : check24 (l ++ [w]) = faultR l w := by
  unfold check24 at h ⊢
  rw [if_neg (by omega)] at h
  rw [if_neg (by simp; omega), chkI_snoc w l [] h, List.append_nil, show (l.map (·.nm)).reverse = namesR l from rfl, chkI_cons, names_any]
  unfold faultR
  split <;> rfl
end Gb
namespace Go.Proofs.YtnlabeglboomlaaGreatDoor.S
open Go Go.Sx Go.RowKit Gb Go.Shelf
set_option maxRecDepth 100000 in
set_option maxHeartbeats 8000000 in
theorem index24_n (n : List UInt8) (l : List Wt) (hl : l.length ≤ 1000000000) : Meets Tryz.prog Gd 75 [.sl l.length (recs wtC l), strP n] (iP (findI n l)) := by
  refine meets_of_vc (Y := {}) (N := 20) (rs := [.tmp 4]) mix tk gd Tryz.func75 rfl (by kernel_rfl) rfl rfl (by simp) (by kernel_rfl) ?_
  have hlen : (recs wtC l).length = l.length * 7 := recs_len wtC_len l
  simp (maxSteps := 10000000) only [↓sx, sx, ↓ty, ↓reduceIte, Nat.reduceEqDiff, Nat.reduceBeqDiff, Nat.reduceAdd, Nat.reduceLeDiff, Nat.reduceLT, Nat.reduceMul, Nat.reduceSub, Int.reduceEq, Int.reduceBNe, Int.reduceBEq, ne_eq, not_false_eq_true, pc, ls, bs, and_true, true_and, and_self, Nat.reduceAdd, Nat.le_refl, leafP]
  refine loopK_of (fun i : Nat => [(0, .p (.sl l.length (recs wtC l))), (1, .p (strP n)), (4, .p (iP 0)), (7, .p (.sl l.length (recs wtC l))), (8, .p (.val (.int .i64 (l.length : Nat)))), (9, .p (.val (.int .i64 (i : Nat))))]) (fun _ => []) (fun _ => []) (fun i => i ≤ l.length ∧ ∀ y ∈ l.take i, (y.nm == n) = false) (fun i => l.length - i) 0 ⟨Nat.zero_le _, by simp⟩ ?_ ?_
  · simp (maxSteps := 10000000) only [isE_nil, is_cons, bo_p, bo_box, bo_orow, bo_rowp, any_cons', all_cons', all_nil', Bool.true_or, Bool.or_true, ↓sx, sx, ↓reduceIte, Nat.reduceEqDiff, Nat.reduceBeqDiff]
    first | trivial | rfl | exact ⟨rfl, rfl⟩ | exact ⟨rfl, rfl, rfl⟩ | exact ⟨rfl, rfl, rfl, rfl⟩ | exact ⟨rfl, rfl, rfl, rfl, rfl⟩
  · rintro i ⟨hi, hv⟩
    by_cases hil : i < l.length
    · have e1 : decide ((i : Int) < ((l.length : Nat) : Int)) = true := decide_eq_true (by omega)
      obtain ⟨x, hx⟩ := getA hil
      have hd := wt_drop l i x hx
      cases hfa : x.nm == n with
      | true =>
        simp (maxSteps := 10000000) only [↓sx, sx, ↓ty, ↓reduceIte, Nat.reduceEqDiff, Nat.reduceBeqDiff, Nat.reduceAdd, Nat.reduceLeDiff, Nat.reduceLT, Nat.reduceMul, Nat.reduceSub, Int.reduceEq, Int.reduceBNe, Int.reduceBEq, ne_eq, not_false_eq_true, pc, ls, bs, and_true, true_and, and_self, Nat.reduceAdd, Nat.le_refl, leafP, pv, e1, hd, hlen, ba_beq, hfa]
        refine ⟨⟨by omega, hil, by omega⟩, ?_⟩
        unfold findI
        rw [fnd_at hx hv hfa, Nat.zero_add]
      | false =>
        simp (maxSteps := 10000000) only [↓sx, sx, ↓ty, ↓reduceIte, Nat.reduceEqDiff, Nat.reduceBeqDiff, Nat.reduceAdd, Nat.reduceLeDiff, Nat.reduceLT, Nat.reduceMul, Nat.reduceSub, Int.reduceEq, Int.reduceBNe, Int.reduceBEq, ne_eq, not_false_eq_true, pc, ls, bs, and_true, true_and, and_self, Nat.reduceAdd, Nat.le_refl, leafP, pv, e1, hd, hlen, ba_beq, hfa]
        refine ⟨⟨by omega, hil, by omega⟩, ?_⟩
        refine NextK.mk (i + 1) (by omega) ⟨by omega, ?_⟩ ?_
        · intro y hy
          rw [take_snocA hx] at hy
          rcases List.mem_append.1 hy with hy | hy
          · exact hv y hy
          · rw [List.mem_singleton] at hy; rw [hy]; exact hfa
        · simp (maxSteps := 10000000) only [isE_nil, is_cons, bo_p, bo_box, bo_orow, bo_rowp, any_cons', all_cons', all_nil', Bool.true_or, Bool.or_true, ↓sx, sx, ↓reduceIte, Nat.reduceEqDiff, Nat.reduceBeqDiff]
          rw [i64_id (by omega) (by omega)]
          first | trivial | rfl | exact ⟨rfl, rfl⟩ | exact ⟨rfl, rfl, rfl⟩ | exact ⟨rfl, rfl, rfl, rfl⟩ | exact ⟨rfl, rfl, rfl, rfl, rfl⟩
    · obtain rfl : i = l.length := by omega
      rw [List.take_length] at hv
      have e1 : decide (((l.length : Nat) : Int) < ((l.length : Nat) : Int)) = false := decide_eq_false (by omega)
      simp (maxSteps := 10000000) only [↓sx, sx, ↓ty, ↓reduceIte, Nat.reduceEqDiff, Nat.reduceBeqDiff, Nat.reduceAdd, Nat.reduceLeDiff, Nat.reduceLT, Nat.reduceMul, Nat.reduceSub, Int.reduceEq, Int.reduceBNe, Int.reduceBEq, ne_eq, not_false_eq_true, pc, ls, bs, and_true, true_and, and_self, Nat.reduceAdd, Nat.le_refl, leafP, e1]
      unfold findI
      rw [fnd_none hv]
set_option maxRecDepth 100000 in
set_option maxHeartbeats 8000000 in
theorem addR_n (l : List Wt) (w : Wt) (hb : ∀ x ∈ l, x.lt 20000) (hw : w.lt 20000) (hl : l.length ≤ 1000000) : Meets Tryz.prog Gd 28 [.sl l.length (recs wtC l), wtP w] (addP l w) := by
  refine meets_of_vc (Y := { ex := [9], en := [(9, .free 1 (.alt 0 (.alt 2 (.step 3 (.step 4 (.step 5 (.step 6 (.step 7 .done))))) (.step 3 (.alt 2 (.step 4 (.step 5 (.step 6 (.step 7 .done)))) (.step 4 (.step 2 (.step 5 (.step 6 (.step 7 .done)))))))) (.step 3 (.alt 0 (.alt 2 (.step 4 (.step 5 (.step 6 (.step 7 .done)))) (.step 4 (.step 2 (.step 5 (.step 6 (.step 7 .done)))))) (.step 4 (.step 0 (.step 2 (.step 5 (.step 6 (.step 7 .done))))))))))] }) (N := 28) (rs := [.tmp 4, .tmp 5]) mix tk gd Tryz.func28 rfl (by kernel_rfl) rfl rfl (by simp) (by kernel_rfl) ?_
  have C := checkR_n l hb hl
  have F := faultR_n l w hw hl
  unfold addP wlP
  by_cases h0 : check24 l = 0
  · obtain ⟨h64, hf⟩ := check24_ok h0
    rw [h0] at C
    rw [if_pos h0]
    by_cases h1 : l.length = 64
    · have e1 : (((l.length : Nat) : Int) == 64) = true := by rw [beq_iff_eq]; omega
      rw [if_pos h1]
      simp (maxSteps := 10000000) only [↓sx, sx, ↓ty, ↓reduceIte, Nat.reduceEqDiff, Nat.reduceBeqDiff, Nat.reduceAdd, Nat.reduceLeDiff, Nat.reduceLT, Nat.reduceMul, Nat.reduceSub, Int.reduceEq, Int.reduceBNe, Int.reduceBEq, ne_eq, not_false_eq_true, pc, ls, bs, and_true, true_and, and_self, Nat.reduceAdd, Nat.le_refl, leafP, pv]
      refine CallT.mk (t := ⟨⟩) C ?_
      simp (maxSteps := 10000000) only [↓sx, sx, ↓ty, ↓reduceIte, Nat.reduceEqDiff, Nat.reduceBeqDiff, Nat.reduceAdd, Nat.reduceLeDiff, Nat.reduceLT, Nat.reduceMul, Nat.reduceSub, Int.reduceEq, Int.reduceBNe, Int.reduceBEq, ne_eq, not_false_eq_true, pc, ls, bs, and_true, true_and, and_self, Nat.reduceAdd, Nat.le_refl, leafP, pv, e1]
    · have e1 : (((l.length : Nat) : Int) == 64) = false := by rw [beq_eq_false_iff_ne]; omega
      have hlen : (recs wtC l).length = l.length * 7 := recs_len wtC_len l
      have hleaf : (recs wtC l).all leafP = true := recs_leaf wtC_leaf l
      have hll : (l ++ [w]).length = l.length + 1 := by simp
      rw [if_neg h1, recs_one, hll, check24_snoc w h0 (by omega)]
      rw [wtP_c] at F ⊢
      by_cases hff : faultR l w = 0
      · rw [hff] at F
        rw [if_pos hff]
        simp (maxSteps := 10000000) only [↓sx, sx, ↓ty, ↓reduceIte, Nat.reduceEqDiff, Nat.reduceBeqDiff, Nat.reduceAdd, Nat.reduceLeDiff, Nat.reduceLT, Nat.reduceMul, Nat.reduceSub, Int.reduceEq, Int.reduceBNe, Int.reduceBEq, ne_eq, not_false_eq_true, pc, ls, bs, and_true, true_and, and_self, Nat.reduceAdd, Nat.le_refl, leafP, pv]
        refine CallT.mk (t := ⟨⟩) C ?_
        simp (maxSteps := 10000000) only [↓sx, sx, ↓ty, ↓reduceIte, Nat.reduceEqDiff, Nat.reduceBeqDiff, Nat.reduceAdd, Nat.reduceLeDiff, Nat.reduceLT, Nat.reduceMul, Nat.reduceSub, Int.reduceEq, Int.reduceBNe, Int.reduceBEq, ne_eq, not_false_eq_true, pc, ls, bs, and_true, true_and, and_self, Nat.reduceAdd, Nat.le_refl, leafP, pv, e1]
        refine CallT.mk (t := ⟨⟩) F ?_
        simp (maxSteps := 10000000) only [↓sx, sx, ↓ty, ↓reduceIte, Nat.reduceEqDiff, Nat.reduceBeqDiff, Nat.reduceAdd, Nat.reduceLeDiff, Nat.reduceLT, Nat.reduceMul, Nat.reduceSub, Int.reduceEq, Int.reduceBNe, Int.reduceBEq, ne_eq, not_false_eq_true, pc, ls, bs, and_true, true_and, and_self, Nat.reduceAdd, Nat.le_refl, leafP, pv]
        refine ⟨by kernel_rfl, ?_⟩
        have hM : maxLen = 9223372036854775807 := rfl
        exact ⟨⟨hlen, hleaf, by omega, by omega⟩, ⟨by omega, by omega⟩, by rw [Nat.zero_add]⟩
      · have d0 : (faultR l w != 0) = true := by simp [hff]
        rw [if_neg hff]
        generalize faultR l w = fr at *
        simp (maxSteps := 10000000) only [↓sx, sx, ↓ty, ↓reduceIte, Nat.reduceEqDiff, Nat.reduceBeqDiff, Nat.reduceAdd, Nat.reduceLeDiff, Nat.reduceLT, Nat.reduceMul, Nat.reduceSub, Int.reduceEq, Int.reduceBNe, Int.reduceBEq, ne_eq, not_false_eq_true, pc, ls, bs, and_true, true_and, and_self, Nat.reduceAdd, Nat.le_refl, leafP, pv]
        refine CallT.mk (t := ⟨⟩) C ?_
        simp (maxSteps := 10000000) only [↓sx, sx, ↓ty, ↓reduceIte, Nat.reduceEqDiff, Nat.reduceBeqDiff, Nat.reduceAdd, Nat.reduceLeDiff, Nat.reduceLT, Nat.reduceMul, Nat.reduceSub, Int.reduceEq, Int.reduceBNe, Int.reduceBEq, ne_eq, not_false_eq_true, pc, ls, bs, and_true, true_and, and_self, Nat.reduceAdd, Nat.le_refl, leafP, pv, e1]
        refine CallT.mk (t := ⟨⟩) F ?_
        simp (maxSteps := 10000000) only [↓sx, sx, ↓ty, ↓reduceIte, Nat.reduceEqDiff, Nat.reduceBeqDiff, Nat.reduceAdd, Nat.reduceLeDiff, Nat.reduceLT, Nat.reduceMul, Nat.reduceSub, Int.reduceEq, Int.reduceBNe, Int.reduceBEq, ne_eq, not_false_eq_true, pc, ls, bs, and_true, true_and, and_self, Nat.reduceAdd, Nat.le_refl, leafP, pv, d0]
  · have d0 : (check24 l != 0) = true := by simp [h0]
    rw [if_neg h0]
    simp (maxSteps := 10000000) only [↓sx, sx, ↓ty, ↓reduceIte, Nat.reduceEqDiff, Nat.reduceBeqDiff, Nat.reduceAdd, Nat.reduceLeDiff, Nat.reduceLT, Nat.reduceMul, Nat.reduceSub, Int.reduceEq, Int.reduceBNe, Int.reduceBEq, ne_eq, not_false_eq_true, pc, ls, bs, and_true, true_and, and_self, Nat.reduceAdd, Nat.le_refl, leafP, pv]
    refine CallT.mk (t := ⟨⟩) C ?_
    simp (maxSteps := 10000000) only [↓sx, sx, ↓ty, ↓reduceIte, Nat.reduceEqDiff, Nat.reduceBeqDiff, Nat.reduceAdd, Nat.reduceLeDiff, Nat.reduceLT, Nat.reduceMul, Nat.reduceSub, Int.reduceEq, Int.reduceBNe, Int.reduceBEq, ne_eq, not_false_eq_true, pc, ls, bs, and_true, true_and, and_self, Nat.reduceAdd, Nat.le_refl, leafP, pv, d0]
set_option maxRecDepth 100000 in
set_option maxHeartbeats 8000000 in
theorem removeR_n (l : List Wt) (n : List UInt8) (hb : ∀ x ∈ l, x.lt 20000) (hl : l.length ≤ 1000000) : Meets Tryz.prog Gd 30 [.sl l.length (recs wtC l), strP n] (remP l n) := by
  refine meets_of_vc (Y := { ex := [7], en := [(7, .free 1 (.free 2 (.free 5 (.free 6 (.alt 0 (.alt 3 (.alt 4 (.step 7 (.step 8 (.step 9 (.step 10 (.step 11 .done))))) (.step 7 (.alt 4 (.step 8 (.step 9 (.step 10 (.step 11 .done)))) (.step 8 (.step 4 (.step 9 (.step 10 (.step 11 .done)))))))) (.step 7 (.alt 3 (.alt 4 (.step 8 (.step 9 (.step 10 (.step 11 .done)))) (.step 8 (.step 4 (.step 9 (.step 10 (.step 11 .done)))))) (.step 8 (.step 3 (.step 4 (.step 9 (.step 10 (.step 11 .done))))))))) (.alt 3 (.alt 0 (.alt 4 (.step 7 (.step 8 (.step 9 (.step 10 (.step 11 .done))))) (.step 7 (.alt 4 (.step 8 (.step 9 (.step 10 (.step 11 .done)))) (.step 8 (.step 4 (.step 9 (.step 10 (.step 11 .done)))))))) (.step 7 (.alt 0 (.alt 4 (.step 8 (.step 9 (.step 10 (.step 11 .done)))) (.step 8 (.step 4 (.step 9 (.step 10 (.step 11 .done)))))) (.step 8 (.step 0 (.step 4 (.step 9 (.step 10 (.step 11 .done))))))))) (.step 7 (.alt 0 (.alt 3 (.alt 4 (.step 8 (.step 9 (.step 10 (.step 11 .done)))) (.step 8 (.step 4 (.step 9 (.step 10 (.step 11 .done)))))) (.step 8 (.step 3 (.step 4 (.step 9 (.step 10 (.step 11 .done))))))) (.alt 3 (.alt 0 (.alt 4 (.step 8 (.step 9 (.step 10 (.step 11 .done)))) (.step 8 (.step 4 (.step 9 (.step 10 (.step 11 .done)))))) (.step 8 (.step 0 (.step 4 (.step 9 (.step 10 (.step 11 .done))))))) (.step 8 (.alt 0 (.step 3 (.step 4 (.step 9 (.step 10 (.step 11 .done))))) (.step 3 (.step 0 (.step 4 (.step 9 (.step 10 (.step 11 .done)))))))))))))))))] }) (N := 28) (rs := [.tmp 4, .tmp 5]) mix tk gd Tryz.func30 rfl (by kernel_rfl) rfl rfl (by simp) (by kernel_rfl) ?_
  have C := checkR_n l hb hl
  unfold remP wlP
  by_cases h0 : check24 l = 0
  · obtain ⟨h64, hf⟩ := check24_ok h0
    have F := index24_n n l (by omega)
    have hlen : (recs wtC l).length = l.length * 7 := recs_len wtC_len l
    rw [h0] at C
    rw [if_pos h0]
    rcases findI_spec n l with hi | ⟨i, hil, hi⟩
    · rw [hi] at F ⊢
      rw [if_pos (by omega)]
      simp (maxSteps := 10000000) only [↓sx, sx, ↓ty, ↓reduceIte, Nat.reduceEqDiff, Nat.reduceBeqDiff, Nat.reduceAdd, Nat.reduceLeDiff, Nat.reduceLT, Nat.reduceMul, Nat.reduceSub, Int.reduceEq, Int.reduceBNe, Int.reduceBEq, ne_eq, not_false_eq_true, pc, ls, bs, and_true, true_and, and_self, Nat.reduceAdd, Nat.le_refl, leafP]
      refine CallT.mk (t := ⟨⟩) C ?_
      simp (maxSteps := 10000000) only [↓sx, sx, ↓ty, ↓reduceIte, Nat.reduceEqDiff, Nat.reduceBeqDiff, Nat.reduceAdd, Nat.reduceLeDiff, Nat.reduceLT, Nat.reduceMul, Nat.reduceSub, Int.reduceEq, Int.reduceBNe, Int.reduceBEq, ne_eq, not_false_eq_true, pc, ls, bs, and_true, true_and, and_self, Nat.reduceAdd, Nat.le_refl, leafP]
      refine CallT.mk (t := ⟨⟩) F ?_
      have e1 : decide ((-1 : Int) < 0) = true := rfl
      simp (maxSteps := 10000000) only [↓sx, sx, ↓ty, ↓reduceIte, Nat.reduceEqDiff, Nat.reduceBeqDiff, Nat.reduceAdd, Nat.reduceLeDiff, Nat.reduceLT, Nat.reduceMul, Nat.reduceSub, Int.reduceEq, Int.reduceBNe, Int.reduceBEq, ne_eq, not_false_eq_true, pc, ls, bs, and_true, true_and, and_self, Nat.reduceAdd, Nat.le_refl, leafP, e1]
    · rw [hi] at F ⊢
      rw [if_neg (by omega), Int.toNat_natCast]
      have e1 : decide ((i : Int) < 0) = false := decide_eq_false (by omega)
      have e2 : IntKind.i64.wrap ((i : Int) + 1) = (i : Int) + 1 := i64_id (by omega) (by omega)
      have e3 : ((i : Int) + 1).toNat = i + 1 := by omega
      have ht : (recs wtC l).take (i * 7) = recs wtC (l.take i) := recs_take wtC_len l i
      have hd : (recs wtC l).drop ((i + 1) * 7) = recs wtC (l.drop (i + 1)) := recs_dropn wtC_len l (i + 1)
      simp (maxSteps := 10000000) only [↓sx, sx, ↓ty, ↓reduceIte, Nat.reduceEqDiff, Nat.reduceBeqDiff, Nat.reduceAdd, Nat.reduceLeDiff, Nat.reduceLT, Nat.reduceMul, Nat.reduceSub, Int.reduceEq, Int.reduceBNe, Int.reduceBEq, ne_eq, not_false_eq_true, pc, ls, bs, and_true, true_and, and_self, Nat.reduceAdd, Nat.le_refl, leafP]
      refine CallT.mk (t := ⟨⟩) C ?_
      simp (maxSteps := 10000000) only [↓sx, sx, ↓ty, ↓reduceIte, Nat.reduceEqDiff, Nat.reduceBeqDiff, Nat.reduceAdd, Nat.reduceLeDiff, Nat.reduceLT, Nat.reduceMul, Nat.reduceSub, Int.reduceEq, Int.reduceBNe, Int.reduceBEq, ne_eq, not_false_eq_true, pc, ls, bs, and_true, true_and, and_self, Nat.reduceAdd, Nat.le_refl, leafP]
      refine CallT.mk (t := ⟨⟩) F ?_
      simp (maxSteps := 10000000) only [↓sx, sx, ↓ty, ↓reduceIte, Nat.reduceEqDiff, Nat.reduceBeqDiff, Nat.reduceAdd, Nat.reduceLeDiff, Nat.reduceLT, Nat.reduceMul, Nat.reduceSub, Int.reduceEq, Int.reduceBNe, Int.reduceBEq, ne_eq, not_false_eq_true, pc, ls, bs, and_true, true_and, and_self, Nat.reduceAdd, Nat.le_refl, leafP, e1]
      refine ⟨by kernel_rfl, ?_⟩
      have hM : maxLen = 9223372036854775807 := rfl
      have hfull : (recs wtC l).take (l.length * 7) = recs wtC l := List.take_of_length_le (by omega)
      have L1 : (recs wtC (l.take i)).length = i * 7 := by rw [recs_len wtC_len, List.length_take]; congr 1; omega
      have L2 : (recs wtC (l.drop (i + 1))).length = (l.length - (i + 1)) * 7 := by rw [recs_len wtC_len, List.length_drop]
      have A1 : (recs wtC (l.take i)).all leafP = true := recs_leaf wtC_leaf _
      have A2 : (recs wtC (l.drop (i + 1))).all leafP = true := recs_leaf wtC_leaf _
      have FE : some (PV.tup [PV.sl (0 + i + (l.length - (i + 1))) (recs wtC (l.take i) ++ recs wtC (l.drop (i + 1))), PV.val (Value.int IntKind.i64 0)]) = some (PV.tup [PV.sl (cut i l).length (recs wtC (cut i l)), PV.val (Value.int IntKind.i64 0)]) := by
        rw [cut_len hil, show 0 + i + (l.length - (i + 1)) = l.length - 1 by omega]
        unfold cut
        rw [recs_app]
      simp only [e2, e3, hfull, ht, hd, L1, L2, A1, A2, FE, and_true, true_and]
      repeat' apply And.intro
      all_goals omega
  · have d0 : (check24 l != 0) = true := by simp [h0]
    rw [if_neg h0]
    simp (maxSteps := 10000000) only [↓sx, sx, ↓ty, ↓reduceIte, Nat.reduceEqDiff, Nat.reduceBeqDiff, Nat.reduceAdd, Nat.reduceLeDiff, Nat.reduceLT, Nat.reduceMul, Nat.reduceSub, Int.reduceEq, Int.reduceBNe, Int.reduceBEq, ne_eq, not_false_eq_true, pc, ls, bs, and_true, true_and, and_self, Nat.reduceAdd, Nat.le_refl, leafP]
    refine CallT.mk (t := ⟨⟩) C ?_
    simp (maxSteps := 10000000) only [↓sx, sx, ↓ty, ↓reduceIte, Nat.reduceEqDiff, Nat.reduceBeqDiff, Nat.reduceAdd, Nat.reduceLeDiff, Nat.reduceLT, Nat.reduceMul, Nat.reduceSub, Int.reduceEq, Int.reduceBNe, Int.reduceBEq, ne_eq, not_false_eq_true, pc, ls, bs, and_true, true_and, and_self, Nat.reduceAdd, Nat.le_refl, leafP, d0]
end Go.Proofs.YtnlabeglboomlaaGreatDoor.S
namespace Gb
open Go Go.RowKit Go.Sx
theorem add_form (l : List Wt) (w : Wt) : ∃ m e, addP l w = .tup [.sl (List.length m) (recs wtC m), iP e] ∧ m.length ≤ 65 := by
  unfold addP
  split
  · rename_i h
    have := (check24_ok h).1
    split
    · exact ⟨[], _, rfl, by simp⟩
    · split
      · exact ⟨l ++ [w], _, rfl, by simp; omega⟩
      · exact ⟨[], _, rfl, by simp⟩
  · exact ⟨[], _, rfl, by simp⟩
theorem rem_form (l : List Wt) (n : List UInt8) : ∃ m e, remP l n = .tup [.sl (List.length m) (recs wtC m), iP e] ∧ m.length ≤ 65 := by
  unfold remP
  split
  · rename_i h
    have := (check24_ok h).1
    split
    · exact ⟨[], _, rfl, by simp⟩
    · refine ⟨cut (findI n l).toNat l, _, rfl, ?_⟩
      unfold cut; rw [List.length_append, List.length_take, List.length_drop]; omega
  · exact ⟨[], _, rfl, by simp⟩
end Gb
namespace Go.Proofs.YtnlabeglboomlaaGreatDoor.S
open Go Go.Sx Go.RowKit Gb Go.Shelf
set_option maxRecDepth 100000 in
set_option maxHeartbeats 8000000 in
theorem adds_n (l : List Wt) (w : Wt) (n : List UInt8) (hl : l.length ≤ 9223372036854775807) : Meets Tryz.prog Gd 6 [.sl l.length (recs wtC l), wtP w, strP n] (.val (.bool true)) := by
  refine meets_of_vc (Y := { em := [22] }) (N := 70) (rs := [.tmp 6]) mix tk gd Tryz.func6 rfl (by kernel_rfl) rfl rfl (by simp) (by kernel_rfl) ?_
  have W := awake24_n
  have S := shortL_n l hl
  have S2 := shortL_n [w] (by simp)
  rw [show recs wtC [w] = recs wtC ([] ++ [w]) from rfl, recs_one] at S2
  rw [wtP_c]
  simp (maxSteps := 10000000) only [↓sx, sx, ↓ty, ↓reduceIte, Nat.reduceEqDiff, Nat.reduceBeqDiff, Nat.reduceAdd, Nat.reduceLeDiff, Nat.reduceLT, Nat.reduceMul, Nat.reduceSub, Int.reduceEq, Int.reduceBNe, Int.reduceBEq, ne_eq, not_false_eq_true, pc, ls, bs, and_true, true_and, and_self, Nat.reduceAdd, Nat.le_refl, leafP, pv]
  refine CallT.mk (t := ⟨⟩) W ?_
  simp (maxSteps := 10000000) only [↓sx, sx, ↓ty, ↓reduceIte, Nat.reduceEqDiff, Nat.reduceBeqDiff, Nat.reduceAdd, Nat.reduceLeDiff, Nat.reduceLT, Nat.reduceMul, Nat.reduceSub, Int.reduceEq, Int.reduceBNe, Int.reduceBEq, ne_eq, not_false_eq_true, pc, ls, bs, and_true, true_and, and_self, Nat.reduceAdd, Nat.le_refl, leafP, pv]
  refine CallT.mk (t := ⟨⟩) S ?_
  cases hs : shortL l with
  | false => simp (maxSteps := 10000000) only [↓sx, sx, ↓ty, ↓reduceIte, Nat.reduceEqDiff, Nat.reduceBeqDiff, Nat.reduceAdd, Nat.reduceLeDiff, Nat.reduceLT, Nat.reduceMul, Nat.reduceSub, Int.reduceEq, Int.reduceBNe, Int.reduceBEq, ne_eq, not_false_eq_true, pc, ls, bs, and_true, true_and, and_self, Nat.reduceAdd, Nat.le_refl, leafP, pv]
  | true =>
    simp (maxSteps := 10000000) only [↓sx, sx, ↓ty, ↓reduceIte, Nat.reduceEqDiff, Nat.reduceBeqDiff, Nat.reduceAdd, Nat.reduceLeDiff, Nat.reduceLT, Nat.reduceMul, Nat.reduceSub, Int.reduceEq, Int.reduceBNe, Int.reduceBEq, ne_eq, not_false_eq_true, pc, ls, bs, and_true, true_and, and_self, Nat.reduceAdd, Nat.le_refl, leafP, pv]
    refine CallT.mk (t := ⟨⟩) S2 ?_
    cases hs2 : shortL [w] with
    | false => simp (maxSteps := 10000000) only [↓sx, sx, ↓ty, ↓reduceIte, Nat.reduceEqDiff, Nat.reduceBeqDiff, Nat.reduceAdd, Nat.reduceLeDiff, Nat.reduceLT, Nat.reduceMul, Nat.reduceSub, Int.reduceEq, Int.reduceBNe, Int.reduceBEq, ne_eq, not_false_eq_true, pc, ls, bs, and_true, true_and, and_self, Nat.reduceAdd, Nat.le_refl, leafP, pv]
    | true =>
      obtain ⟨hw, hlen⟩ := shortL_s hs
      have hww := (shortL_s hs2).1 w (by simp)
      have K := cloneW_n l (by omega)
      have A := ladd24_n l w (fun w h => (hw w h).b.lt) hww.b.lt
      have AR := addR_n l w (fun w h => (hw w h).b.lt) hww.b.lt (by omega)
      have R := lremove_n l n (fun w h => (hw w h).b.lt)
      have RR := removeR_n l n (fun w h => (hw w h).b.lt) (by omega)
      unfold wlP at R
      obtain ⟨m, e, e1, hm⟩ := add_form l w
      obtain ⟨p, f, e2, hp⟩ := rem_form l n
      rw [e1] at A AR
      rw [e2] at R RR
      rw [wtP_c] at A AR
      have Q1 := same_n m (by omega)
      have Q2 := same_n p (by omega)
      simp (maxSteps := 10000000) only [↓sx, sx, ↓ty, ↓reduceIte, Nat.reduceEqDiff, Nat.reduceBeqDiff, Nat.reduceAdd, Nat.reduceLeDiff, Nat.reduceLT, Nat.reduceMul, Nat.reduceSub, Int.reduceEq, Int.reduceBNe, Int.reduceBEq, ne_eq, not_false_eq_true, pc, ls, bs, and_true, true_and, and_self, Nat.reduceAdd, Nat.le_refl, leafP, pv]
      refine CallT.mk (t := ⟨⟩) K ?_
      simp (maxSteps := 10000000) only [↓sx, sx, ↓ty, ↓reduceIte, Nat.reduceEqDiff, Nat.reduceBeqDiff, Nat.reduceAdd, Nat.reduceLeDiff, Nat.reduceLT, Nat.reduceMul, Nat.reduceSub, Int.reduceEq, Int.reduceBNe, Int.reduceBEq, ne_eq, not_false_eq_true, pc, ls, bs, and_true, true_and, and_self, Nat.reduceAdd, Nat.le_refl, leafP, pv]
      refine CallT.mk (t := ⟨⟩) A ?_
      simp (maxSteps := 10000000) only [↓sx, sx, ↓ty, ↓reduceIte, Nat.reduceEqDiff, Nat.reduceBeqDiff, Nat.reduceAdd, Nat.reduceLeDiff, Nat.reduceLT, Nat.reduceMul, Nat.reduceSub, Int.reduceEq, Int.reduceBNe, Int.reduceBEq, ne_eq, not_false_eq_true, pc, ls, bs, and_true, true_and, and_self, Nat.reduceAdd, Nat.le_refl, leafP, pv]
      refine CallT.mk (t := ⟨⟩) AR ?_
      simp (maxSteps := 10000000) only [↓sx, sx, ↓ty, ↓reduceIte, Nat.reduceEqDiff, Nat.reduceBeqDiff, Nat.reduceAdd, Nat.reduceLeDiff, Nat.reduceLT, Nat.reduceMul, Nat.reduceSub, Int.reduceEq, Int.reduceBNe, Int.reduceBEq, ne_eq, not_false_eq_true, pc, ls, bs, and_true, true_and, and_self, Nat.reduceAdd, Nat.le_refl, leafP, pv]
      refine CallT.mk (t := ⟨⟩) K ?_
      simp (maxSteps := 10000000) only [↓sx, sx, ↓ty, ↓reduceIte, Nat.reduceEqDiff, Nat.reduceBeqDiff, Nat.reduceAdd, Nat.reduceLeDiff, Nat.reduceLT, Nat.reduceMul, Nat.reduceSub, Int.reduceEq, Int.reduceBNe, Int.reduceBEq, ne_eq, not_false_eq_true, pc, ls, bs, and_true, true_and, and_self, Nat.reduceAdd, Nat.le_refl, leafP, pv]
      refine CallT.mk (t := ⟨⟩) R ?_
      simp (maxSteps := 10000000) only [↓sx, sx, ↓ty, ↓reduceIte, Nat.reduceEqDiff, Nat.reduceBeqDiff, Nat.reduceAdd, Nat.reduceLeDiff, Nat.reduceLT, Nat.reduceMul, Nat.reduceSub, Int.reduceEq, Int.reduceBNe, Int.reduceBEq, ne_eq, not_false_eq_true, pc, ls, bs, and_true, true_and, and_self, Nat.reduceAdd, Nat.le_refl, leafP, pv]
      refine CallT.mk (t := ⟨⟩) RR ?_
      simp (maxSteps := 10000000) only [↓sx, sx, ↓ty, ↓reduceIte, Nat.reduceEqDiff, Nat.reduceBeqDiff, Nat.reduceAdd, Nat.reduceLeDiff, Nat.reduceLT, Nat.reduceMul, Nat.reduceSub, Int.reduceEq, Int.reduceBNe, Int.reduceBEq, ne_eq, not_false_eq_true, pc, ls, bs, and_true, true_and, and_self, Nat.reduceAdd, Nat.le_refl, leafP, pv]
      refine CallT.mk (t := ⟨⟩) Q1 ?_
      simp (maxSteps := 10000000) only [↓sx, sx, ↓ty, ↓reduceIte, Nat.reduceEqDiff, Nat.reduceBeqDiff, Nat.reduceAdd, Nat.reduceLeDiff, Nat.reduceLT, Nat.reduceMul, Nat.reduceSub, Int.reduceEq, Int.reduceBNe, Int.reduceBEq, ne_eq, not_false_eq_true, pc, ls, bs, and_true, true_and, and_self, Nat.reduceAdd, Nat.le_refl, leafP, pv, beq_self_eq_true]
      refine CallT.mk (t := ⟨⟩) Q2 ?_
      simp (maxSteps := 10000000) only [↓sx, sx, ↓ty, ↓reduceIte, Nat.reduceEqDiff, Nat.reduceBeqDiff, Nat.reduceAdd, Nat.reduceLeDiff, Nat.reduceLT, Nat.reduceMul, Nat.reduceSub, Int.reduceEq, Int.reduceBNe, Int.reduceBEq, ne_eq, not_false_eq_true, pc, ls, bs, and_true, true_and, and_self, Nat.reduceAdd, Nat.le_refl, leafP, pv, beq_self_eq_true]
theorem adds_law (xs : List PV) (h : FitA [.sl (.agg [.str, .str, .agg [.str, .str, .str], .str, .str]), .agg [.str, .str, .agg [.str, .str, .str], .str, .str], .str] xs) : Meets Tryz.prog Gd 6 xs (.val (.bool true)) := by
  obtain ⟨y, ys, rfl, h1, h⟩ := fita_cons h
  obtain ⟨z, zs, rfl, h2, h⟩ := fita_cons h
  obtain ⟨u, us, rfl, h3, h⟩ := fita_cons h
  rw [fita_nil h]
  obtain ⟨l, rfl, hl⟩ := fit_wts h1
  obtain ⟨w, rfl⟩ := fit_wt h2
  obtain ⟨n, rfl, _⟩ := fit_str h3
  exact adds_n l w n hl
end Go.Proofs.YtnlabeglboomlaaGreatDoor.S
namespace Gb
open Go Go.RowKit Go.Sx
end Gb
namespace Gb
open Go Go.RowKit Go.Sx
theorem totP_q {l : List Wt} (h0 : check24 l = 0) : totalP l = .tup [strP (rT (totM l)), vtP (totV l).txt, iP 0] := by unfold totalP; rw [if_pos h0]; rfl
end Gb
namespace Go.Proofs.YtnlabeglboomlaaGreatDoor.S
open Go Go.Sx Go.RowKit Gb Go.Shelf
end Go.Proofs.YtnlabeglboomlaaGreatDoor.S
namespace Gb
open Go Go.RowKit Go.Sx
theorem fnd_last {l : List Wt} {w : Wt} (h : l.any (fun x => x.nm == w.nm) = false) : findI w.nm (l ++ [w]) = (l.length : Int) := by
  unfold findI
  rw [fnd_at (i := l.length) (k := 0) (x := w) (by simp) (fun y hy => by
    rw [List.take_left'] at hy
    · have := List.any_eq_false.1 h y hy
      simpa using this
    · rfl) (by simp), Nat.zero_add]
theorem cut_last (l : List Wt) (w : Wt) : cut l.length (l ++ [w]) = l := by
  unfold cut
  rw [List.take_left' rfl, List.drop_of_length_le (by simp), List.append_nil]
theorem add_ok {l : List Wt} {w : Wt} (h : check24 (l ++ [w]) = 0) (h0 : check24 l = 0) (h64 : l.length ≠ 64) : faultI w = 0 ∧ check24 [w] = 0 ∧ remP (l ++ [w]) w.nm = .tup [.sl l.length (recs wtC l), iP 0] := by
  have hl := (check24_ok h0).1
  have hF := check24_snoc w h0 (by omega)
  rw [h] at hF
  unfold faultR at hF
  by_cases hf : faultI w = 0
  · rw [if_pos hf] at hF
    cases ha : l.any (fun x => x.nm == w.nm) with
    | true => rw [ha] at hF; simp at hF
    | false =>
      refine ⟨hf, ?_, ?_⟩
      · unfold check24; rw [if_neg (by simp), chkI_cons, if_pos hf]; rfl
      · unfold remP
        rw [if_pos h, fnd_last ha, if_neg (by omega), Int.toNat_natCast, cut_last]; rfl
  · rw [if_neg hf] at hF; exact absurd hF.symm hf
theorem totM_one (w : Wt) : totM [w] = ratOf w.m := by unfold totM; simp [Rat.zero_add]
theorem totV_one (w : Wt) : totV [w] = w.c.val.scale (ratOf w.m) := by
  unfold totV
  simp only [List.map_cons, List.map_nil, List.foldl_cons, List.foldl_nil]
  unfold Vq.add
  simp only [Rat.zero_add]
end Gb
namespace Go.Proofs.YtnlabeglboomlaaGreatDoor.S
open Go Go.Sx Go.RowKit Gb Go.Shelf
set_option maxRecDepth 100000 in
set_option maxHeartbeats 8000000 in
theorem undone_n (l : List Wt) (w : Wt) (hl : l.length ≤ 9223372036854775807) : Meets Tryz.prog Gd 7 [.sl l.length (recs wtC l), wtP w] (.val (.bool true)) := by
  refine meets_of_vc (Y := { em := [22] }) (N := 118) (rs := [.tmp 4]) mix tk gd Tryz.func7 rfl (by kernel_rfl) rfl rfl (by simp) (by kernel_rfl) ?_
  have W := awake24_n
  have S := shortL_n l hl
  have S2 := shortL_n [w] (by simp)
  have one : recs wtC [w] = [.val (.string ⟨w.nm.toArray⟩), .val (.string ⟨w.m.toArray⟩), .val (.string ⟨w.c.x.toArray⟩), .val (.string ⟨w.c.y.toArray⟩), .val (.string ⟨w.c.z.toArray⟩), .val (.string ⟨w.fr.toArray⟩), .val (.string ⟨w.tt.toArray⟩)] := rfl
  rw [one] at S2
  rw [wtP_c]
  simp (maxSteps := 10000000) only [↓sx, sx, ↓ty, ↓reduceIte, Nat.reduceEqDiff, Nat.reduceBeqDiff, Nat.reduceAdd, Nat.reduceLeDiff, Nat.reduceLT, Nat.reduceMul, Nat.reduceSub, Int.reduceEq, Int.reduceBNe, Int.reduceBEq, ne_eq, not_false_eq_true, pc, ls, bs, and_true, true_and, and_self, Nat.reduceAdd, Nat.le_refl, leafP, pv]
  refine CallT.mk (t := ⟨⟩) W ?_
  simp (maxSteps := 10000000) only [↓sx, sx, ↓ty, ↓reduceIte, Nat.reduceEqDiff, Nat.reduceBeqDiff, Nat.reduceAdd, Nat.reduceLeDiff, Nat.reduceLT, Nat.reduceMul, Nat.reduceSub, Int.reduceEq, Int.reduceBNe, Int.reduceBEq, ne_eq, not_false_eq_true, pc, ls, bs, and_true, true_and, and_self, Nat.reduceAdd, Nat.le_refl, leafP, pv]
  refine CallT.mk (t := ⟨⟩) S ?_
  cases hs : shortL l with
  | false => simp (maxSteps := 10000000) only [↓sx, sx, ↓ty, ↓reduceIte, Nat.reduceEqDiff, Nat.reduceBeqDiff, Nat.reduceAdd, Nat.reduceLeDiff, Nat.reduceLT, Nat.reduceMul, Nat.reduceSub, Int.reduceEq, Int.reduceBNe, Int.reduceBEq, ne_eq, not_false_eq_true, pc, ls, bs, and_true, true_and, and_self, Nat.reduceAdd, Nat.le_refl, leafP, pv]
  | true =>
    simp (maxSteps := 10000000) only [↓sx, sx, ↓ty, ↓reduceIte, Nat.reduceEqDiff, Nat.reduceBeqDiff, Nat.reduceAdd, Nat.reduceLeDiff, Nat.reduceLT, Nat.reduceMul, Nat.reduceSub, Int.reduceEq, Int.reduceBNe, Int.reduceBEq, ne_eq, not_false_eq_true, pc, ls, bs, and_true, true_and, and_self, Nat.reduceAdd, Nat.le_refl, leafP, pv]
    refine CallT.mk (t := ⟨⟩) S2 ?_
    cases hs2 : shortL [w] with
    | false => simp (maxSteps := 10000000) only [↓sx, sx, ↓ty, ↓reduceIte, Nat.reduceEqDiff, Nat.reduceBeqDiff, Nat.reduceAdd, Nat.reduceLeDiff, Nat.reduceLT, Nat.reduceMul, Nat.reduceSub, Int.reduceEq, Int.reduceBNe, Int.reduceBEq, ne_eq, not_false_eq_true, pc, ls, bs, and_true, true_and, and_self, Nat.reduceAdd, Nat.le_refl, leafP, pv]
    | true =>
      obtain ⟨hw, hlen⟩ := shortL_s hs
      have hww := (shortL_s hs2).1 w (by simp)
      have K := cloneW_n l (by omega)
      have A := ladd24_n l w (fun w h => (hw w h).b.lt) hww.b.lt
      rw [wtP_c] at A
      unfold addP at A
      by_cases h0 : check24 l = 0
      · rw [if_pos h0] at A
        by_cases h64 : l.length = 64
        · rw [if_pos h64] at A
          simp (maxSteps := 10000000) only [↓sx, sx, ↓ty, ↓reduceIte, Nat.reduceEqDiff, Nat.reduceBeqDiff, Nat.reduceAdd, Nat.reduceLeDiff, Nat.reduceLT, Nat.reduceMul, Nat.reduceSub, Int.reduceEq, Int.reduceBNe, Int.reduceBEq, ne_eq, not_false_eq_true, pc, ls, bs, and_true, true_and, and_self, Nat.reduceAdd, Nat.le_refl, leafP, pv]
          refine CallT.mk (t := ⟨⟩) K ?_
          simp (maxSteps := 10000000) only [↓sx, sx, ↓ty, ↓reduceIte, Nat.reduceEqDiff, Nat.reduceBeqDiff, Nat.reduceAdd, Nat.reduceLeDiff, Nat.reduceLT, Nat.reduceMul, Nat.reduceSub, Int.reduceEq, Int.reduceBNe, Int.reduceBEq, ne_eq, not_false_eq_true, pc, ls, bs, and_true, true_and, and_self, Nat.reduceAdd, Nat.le_refl, leafP, pv]
          refine CallT.mk (t := ⟨⟩) A ?_
          simp (maxSteps := 10000000) only [↓sx, sx, ↓ty, ↓reduceIte, Nat.reduceEqDiff, Nat.reduceBeqDiff, Nat.reduceAdd, Nat.reduceLeDiff, Nat.reduceLT, Nat.reduceMul, Nat.reduceSub, Int.reduceEq, Int.reduceBNe, Int.reduceBEq, ne_eq, not_false_eq_true, pc, ls, bs, and_true, true_and, and_self, Nat.reduceAdd, Nat.le_refl, leafP, pv]
          try rfl
        · rw [if_neg h64] at A
          by_cases h1 : check24 (l ++ [w]) = 0
          · rw [if_pos h1] at A
            obtain ⟨hf, hc1, hr⟩ := add_ok h1 h0 h64
            have hall : ∀ x ∈ l ++ [w], x.s := fun x hx => by
              rcases List.mem_append.1 hx with hx | hx
              · exact hw x hx
              · rw [List.mem_singleton] at hx; rw [hx]; exact hww
            obtain ⟨h64', hfl⟩ := check24_ok h0
            have KM := cloneW_n (l ++ [w]) (by simp; omega)
            have R := lremove_n (l ++ [w]) w.nm (fun x h => (hall x h).b.lt)
            have T1 := ltotal_n l (fun x h => (hw x h).b)
            have T2 := ltotal_n (l ++ [w]) (fun x h => (hall x h).b)
            have T3 := ltotal_n [w] (fun x h => by rw [List.mem_singleton] at h; rw [h]; exact hww.b)
            have Q := same_n l hl
            have zM := totM_ok (fun x h => (hw x h).b) hfl l.length (Nat.le_refl _)
            have zV := totV_ok (fun x h => (hw x h).b) hfl l.length (Nat.le_refl _)
            rw [List.take_length] at zM zV
            have hf1 : ∀ x ∈ [w], faultI x = 0 := fun x h => by rw [List.mem_singleton] at h; rw [h]; exact hf
            have hb1 : ∀ x ∈ [w], x.b := fun x h => by rw [List.mem_singleton] at h; rw [h]; exact hww.b
            have yM := totM_ok hb1 hf1 1 (by simp)
            have yV := totV_ok hb1 hf1 1 (by simp)
            rw [show [w].take 1 = [w] from rfl] at yM yV
            rw [totP_q h0] at T1
            rw [totP_q h1, totM_snoc, totV_snoc, ← totV_one, ← totM_one] at T2
            rw [totP_q hc1, one] at T3
            rw [hr] at R
            have D0 := added24_n (totM l) (totM [w]) (zM.mono (by omega)) (yM.mono (by omega))
            have D1 := added24_n (totV l).x (totV [w]).x (zV.1.mono (by omega)) (yV.1.mono (by omega))
            have D2 := added24_n (totV l).y (totV [w]).y (zV.2.1.mono (by omega)) (yV.2.1.mono (by omega))
            have D3 := added24_n (totV l).z (totV [w]).z (zV.2.2.mono (by omega)) (yV.2.2.mono (by omega))
            unfold wlP at R A
            generalize totM l = ml at *
            generalize totM [w] = mw at *
            generalize totV l = vl at *
            generalize totV [w] = vw at *
            generalize hX : l ++ [w] = X at *
            have tx : (vl.add vw).txt = ⟨rT (vl.x + vw.x), rT (vl.y + vw.y), rT (vl.z + vw.z)⟩ := rfl
            have t1 : vl.txt = ⟨rT vl.x, rT vl.y, rT vl.z⟩ := rfl
            have t2 : vw.txt = ⟨rT vw.x, rT vw.y, rT vw.z⟩ := rfl
            rw [tx] at T2
            rw [t1] at T1
            rw [t2] at T3
            unfold rtP at D0 D1 D2 D3
            simp (maxSteps := 10000000) only [↓sx, sx, ↓ty, ↓reduceIte, Nat.reduceEqDiff, Nat.reduceBeqDiff, Nat.reduceAdd, Nat.reduceLeDiff, Nat.reduceLT, Nat.reduceMul, Nat.reduceSub, Int.reduceEq, Int.reduceBNe, Int.reduceBEq, ne_eq, not_false_eq_true, pc, ls, bs, and_true, true_and, and_self, Nat.reduceAdd, Nat.le_refl, leafP, pv]
            refine CallT.mk (t := ⟨⟩) K ?_
            simp (maxSteps := 10000000) only [↓sx, sx, ↓ty, ↓reduceIte, Nat.reduceEqDiff, Nat.reduceBeqDiff, Nat.reduceAdd, Nat.reduceLeDiff, Nat.reduceLT, Nat.reduceMul, Nat.reduceSub, Int.reduceEq, Int.reduceBNe, Int.reduceBEq, ne_eq, not_false_eq_true, pc, ls, bs, and_true, true_and, and_self, Nat.reduceAdd, Nat.le_refl, leafP, pv]
            refine CallT.mk (t := ⟨⟩) A ?_
            simp (maxSteps := 10000000) only [↓sx, sx, ↓ty, ↓reduceIte, Nat.reduceEqDiff, Nat.reduceBeqDiff, Nat.reduceAdd, Nat.reduceLeDiff, Nat.reduceLT, Nat.reduceMul, Nat.reduceSub, Int.reduceEq, Int.reduceBNe, Int.reduceBEq, ne_eq, not_false_eq_true, pc, ls, bs, and_true, true_and, and_self, Nat.reduceAdd, Nat.le_refl, leafP, pv]
            refine CallT.mk (t := ⟨⟩) KM ?_
            simp (maxSteps := 10000000) only [↓sx, sx, ↓ty, ↓reduceIte, Nat.reduceEqDiff, Nat.reduceBeqDiff, Nat.reduceAdd, Nat.reduceLeDiff, Nat.reduceLT, Nat.reduceMul, Nat.reduceSub, Int.reduceEq, Int.reduceBNe, Int.reduceBEq, ne_eq, not_false_eq_true, pc, ls, bs, and_true, true_and, and_self, Nat.reduceAdd, Nat.le_refl, leafP, pv]
            refine CallT.mk (t := ⟨⟩) R ?_
            simp (maxSteps := 10000000) only [↓sx, sx, ↓ty, ↓reduceIte, Nat.reduceEqDiff, Nat.reduceBeqDiff, Nat.reduceAdd, Nat.reduceLeDiff, Nat.reduceLT, Nat.reduceMul, Nat.reduceSub, Int.reduceEq, Int.reduceBNe, Int.reduceBEq, ne_eq, not_false_eq_true, pc, ls, bs, and_true, true_and, and_self, Nat.reduceAdd, Nat.le_refl, leafP, pv]
            refine CallT.mk (t := ⟨⟩) K ?_
            simp (maxSteps := 10000000) only [↓sx, sx, ↓ty, ↓reduceIte, Nat.reduceEqDiff, Nat.reduceBeqDiff, Nat.reduceAdd, Nat.reduceLeDiff, Nat.reduceLT, Nat.reduceMul, Nat.reduceSub, Int.reduceEq, Int.reduceBNe, Int.reduceBEq, ne_eq, not_false_eq_true, pc, ls, bs, and_true, true_and, and_self, Nat.reduceAdd, Nat.le_refl, leafP, pv]
            refine CallT.mk (t := ⟨⟩) T1 ?_
            simp (maxSteps := 10000000) only [↓sx, sx, ↓ty, ↓reduceIte, Nat.reduceEqDiff, Nat.reduceBeqDiff, Nat.reduceAdd, Nat.reduceLeDiff, Nat.reduceLT, Nat.reduceMul, Nat.reduceSub, Int.reduceEq, Int.reduceBNe, Int.reduceBEq, ne_eq, not_false_eq_true, pc, ls, bs, and_true, true_and, and_self, Nat.reduceAdd, Nat.le_refl, leafP, pv]
            refine CallT.mk (t := ⟨⟩) KM ?_
            simp (maxSteps := 10000000) only [↓sx, sx, ↓ty, ↓reduceIte, Nat.reduceEqDiff, Nat.reduceBeqDiff, Nat.reduceAdd, Nat.reduceLeDiff, Nat.reduceLT, Nat.reduceMul, Nat.reduceSub, Int.reduceEq, Int.reduceBNe, Int.reduceBEq, ne_eq, not_false_eq_true, pc, ls, bs, and_true, true_and, and_self, Nat.reduceAdd, Nat.le_refl, leafP, pv]
            refine CallT.mk (t := ⟨⟩) T2 ?_
            simp (maxSteps := 10000000) only [↓sx, sx, ↓ty, ↓reduceIte, Nat.reduceEqDiff, Nat.reduceBeqDiff, Nat.reduceAdd, Nat.reduceLeDiff, Nat.reduceLT, Nat.reduceMul, Nat.reduceSub, Int.reduceEq, Int.reduceBNe, Int.reduceBEq, ne_eq, not_false_eq_true, pc, ls, bs, and_true, true_and, and_self, Nat.reduceAdd, Nat.le_refl, leafP, pv]
            refine CallT.mk (t := ⟨⟩) T3 ?_
            simp (maxSteps := 10000000) only [↓sx, sx, ↓ty, ↓reduceIte, Nat.reduceEqDiff, Nat.reduceBeqDiff, Nat.reduceAdd, Nat.reduceLeDiff, Nat.reduceLT, Nat.reduceMul, Nat.reduceSub, Int.reduceEq, Int.reduceBNe, Int.reduceBEq, ne_eq, not_false_eq_true, pc, ls, bs, and_true, true_and, and_self, Nat.reduceAdd, Nat.le_refl, leafP, pv, la]
            refine CallT.mk (t := ⟨⟩) Q ?_
            simp (maxSteps := 10000000) only [↓sx, sx, ↓ty, ↓reduceIte, Nat.reduceEqDiff, Nat.reduceBeqDiff, Nat.reduceAdd, Nat.reduceLeDiff, Nat.reduceLT, Nat.reduceMul, Nat.reduceSub, Int.reduceEq, Int.reduceBNe, Int.reduceBEq, ne_eq, not_false_eq_true, pc, ls, bs, and_true, true_and, and_self, Nat.reduceAdd, Nat.le_refl, leafP, pv, la, w4, Int.reduceAdd, beq_self_eq_true]
            refine CallT.mk (t := ⟨⟩) D0 ?_
            simp (maxSteps := 10000000) only [↓sx, sx, ↓ty, ↓reduceIte, Nat.reduceEqDiff, Nat.reduceBeqDiff, Nat.reduceAdd, Nat.reduceLeDiff, Nat.reduceLT, Nat.reduceMul, Nat.reduceSub, Int.reduceEq, Int.reduceBNe, Int.reduceBEq, ne_eq, not_false_eq_true, pc, ls, bs, and_true, true_and, and_self, Nat.reduceAdd, Nat.le_refl, leafP, pv, la]
            refine CallT.mk (t := ⟨⟩) D1 ?_
            simp (maxSteps := 10000000) only [↓sx, sx, ↓ty, ↓reduceIte, Nat.reduceEqDiff, Nat.reduceBeqDiff, Nat.reduceAdd, Nat.reduceLeDiff, Nat.reduceLT, Nat.reduceMul, Nat.reduceSub, Int.reduceEq, Int.reduceBNe, Int.reduceBEq, ne_eq, not_false_eq_true, pc, ls, bs, and_true, true_and, and_self, Nat.reduceAdd, Nat.le_refl, leafP, pv, la]
            refine CallT.mk (t := ⟨⟩) D2 ?_
            simp (maxSteps := 10000000) only [↓sx, sx, ↓ty, ↓reduceIte, Nat.reduceEqDiff, Nat.reduceBeqDiff, Nat.reduceAdd, Nat.reduceLeDiff, Nat.reduceLT, Nat.reduceMul, Nat.reduceSub, Int.reduceEq, Int.reduceBNe, Int.reduceBEq, ne_eq, not_false_eq_true, pc, ls, bs, and_true, true_and, and_self, Nat.reduceAdd, Nat.le_refl, leafP, pv, la]
            refine CallT.mk (t := ⟨⟩) D3 ?_
            simp (maxSteps := 10000000) only [↓sx, sx, ↓ty, ↓reduceIte, Nat.reduceEqDiff, Nat.reduceBeqDiff, Nat.reduceAdd, Nat.reduceLeDiff, Nat.reduceLT, Nat.reduceMul, Nat.reduceSub, Int.reduceEq, Int.reduceBNe, Int.reduceBEq, ne_eq, not_false_eq_true, pc, ls, bs, and_true, true_and, and_self, Nat.reduceAdd, Nat.le_refl, leafP, pv, la]
          · rw [if_neg h1] at A
            have d0 : (check24 (l ++ [w]) != 0) = true := by simp [h1]
            generalize check24 (l ++ [w]) = ck at *
            simp (maxSteps := 10000000) only [↓sx, sx, ↓ty, ↓reduceIte, Nat.reduceEqDiff, Nat.reduceBeqDiff, Nat.reduceAdd, Nat.reduceLeDiff, Nat.reduceLT, Nat.reduceMul, Nat.reduceSub, Int.reduceEq, Int.reduceBNe, Int.reduceBEq, ne_eq, not_false_eq_true, pc, ls, bs, and_true, true_and, and_self, Nat.reduceAdd, Nat.le_refl, leafP, pv]
            refine CallT.mk (t := ⟨⟩) K ?_
            simp (maxSteps := 10000000) only [↓sx, sx, ↓ty, ↓reduceIte, Nat.reduceEqDiff, Nat.reduceBeqDiff, Nat.reduceAdd, Nat.reduceLeDiff, Nat.reduceLT, Nat.reduceMul, Nat.reduceSub, Int.reduceEq, Int.reduceBNe, Int.reduceBEq, ne_eq, not_false_eq_true, pc, ls, bs, and_true, true_and, and_self, Nat.reduceAdd, Nat.le_refl, leafP, pv]
            refine CallT.mk (t := ⟨⟩) A ?_
            simp (maxSteps := 10000000) only [↓sx, sx, ↓ty, ↓reduceIte, Nat.reduceEqDiff, Nat.reduceBeqDiff, Nat.reduceAdd, Nat.reduceLeDiff, Nat.reduceLT, Nat.reduceMul, Nat.reduceSub, Int.reduceEq, Int.reduceBNe, Int.reduceBEq, ne_eq, not_false_eq_true, pc, ls, bs, and_true, true_and, and_self, Nat.reduceAdd, Nat.le_refl, leafP, pv, d0]
            try rfl
      · rw [if_neg h0] at A
        have d0 : (check24 l != 0) = true := by simp [h0]
        generalize check24 l = ck at *
        simp (maxSteps := 10000000) only [↓sx, sx, ↓ty, ↓reduceIte, Nat.reduceEqDiff, Nat.reduceBeqDiff, Nat.reduceAdd, Nat.reduceLeDiff, Nat.reduceLT, Nat.reduceMul, Nat.reduceSub, Int.reduceEq, Int.reduceBNe, Int.reduceBEq, ne_eq, not_false_eq_true, pc, ls, bs, and_true, true_and, and_self, Nat.reduceAdd, Nat.le_refl, leafP, pv]
        refine CallT.mk (t := ⟨⟩) K ?_
        simp (maxSteps := 10000000) only [↓sx, sx, ↓ty, ↓reduceIte, Nat.reduceEqDiff, Nat.reduceBeqDiff, Nat.reduceAdd, Nat.reduceLeDiff, Nat.reduceLT, Nat.reduceMul, Nat.reduceSub, Int.reduceEq, Int.reduceBNe, Int.reduceBEq, ne_eq, not_false_eq_true, pc, ls, bs, and_true, true_and, and_self, Nat.reduceAdd, Nat.le_refl, leafP, pv]
        refine CallT.mk (t := ⟨⟩) A ?_
        simp (maxSteps := 10000000) only [↓sx, sx, ↓ty, ↓reduceIte, Nat.reduceEqDiff, Nat.reduceBeqDiff, Nat.reduceAdd, Nat.reduceLeDiff, Nat.reduceLT, Nat.reduceMul, Nat.reduceSub, Int.reduceEq, Int.reduceBNe, Int.reduceBEq, ne_eq, not_false_eq_true, pc, ls, bs, and_true, true_and, and_self, Nat.reduceAdd, Nat.le_refl, leafP, pv, d0]
        try rfl
theorem undone_law (xs : List PV) (h : FitA [.sl (.agg [.str, .str, .agg [.str, .str, .str], .str, .str]), .agg [.str, .str, .agg [.str, .str, .str], .str, .str]] xs) : Meets Tryz.prog Gd 7 xs (.val (.bool true)) := by
  obtain ⟨y, ys, rfl, h1, h⟩ := fita_cons h
  obtain ⟨z, zs, rfl, h2, h⟩ := fita_cons h
  rw [fita_nil h]
  obtain ⟨l, rfl, hl⟩ := fit_wts h1
  obtain ⟨w, rfl⟩ := fit_wt h2
  exact undone_n l w hl
end Go.Proofs.YtnlabeglboomlaaGreatDoor.S
