/- A part of a proof; the last text of this claim says of what. -/
import Derived.Test.YtolehnkoocnenaaGreatDoorV29
import Derived.ChangeSame
import Derived.OpenShut
import Derived.Carry
import Derived.ChangeOld
import Derived.ProofKit
import Derived.WalkSpells
import Derived.Laws.AppendOwn
set_option linter.unusedVariables false
set_option linter.unusedSimpArgs false
set_option linter.unusedSectionVars false
namespace Gb
open Go Go.RowKit Go.Sx
end Gb
namespace Go.Proofs.YtolehnkoocnenaaGreatDoor.S
open Go Go.Sx Go.RowKit Gb Go.Shelf
end Go.Proofs.YtolehnkoocnenaaGreatDoor.S
namespace Gb
open Go Go.RowKit Go.Sx
end Gb
namespace Go.Proofs.YtolehnkoocnenaaGreatDoor.S
open Go Go.Sx Go.RowKit Gb Go.Shelf
end Go.Proofs.YtolehnkoocnenaaGreatDoor.S
namespace Gb
open Go Go.RowKit Go.Sx
end Gb
namespace Go.Proofs.YtolehnkoocnenaaGreatDoor.S
open Go Go.Sx Go.RowKit Gb Go.Shelf
end Go.Proofs.YtolehnkoocnenaaGreatDoor.S
namespace Gb
open Go Go.RowKit Go.Sx
end Gb
namespace Go.Proofs.YtolehnkoocnenaaGreatDoor.S
open Go Go.Sx Go.RowKit Gb Go.Shelf
end Go.Proofs.YtolehnkoocnenaaGreatDoor.S
namespace Gb
open Go Go.RowKit Go.Sx
end Gb
namespace Go.Proofs.YtolehnkoocnenaaGreatDoor.S
open Go Go.Sx Go.RowKit Gb Go.Shelf
end Go.Proofs.YtolehnkoocnenaaGreatDoor.S
namespace Gb
open Go Go.RowKit Go.Sx
end Gb
namespace Go.Proofs.YtolehnkoocnenaaGreatDoor.S
open Go Go.Sx Go.RowKit Gb Go.Shelf
end Go.Proofs.YtolehnkoocnenaaGreatDoor.S
namespace Gb
open Go Go.RowKit Go.Sx
end Gb
namespace Go.Proofs.YtolehnkoocnenaaGreatDoor.S
open Go Go.Sx Go.RowKit Gb Go.Shelf
end Go.Proofs.YtolehnkoocnenaaGreatDoor.S
namespace Gb
open Go Go.RowKit Go.Sx
end Gb
namespace Go.Proofs.YtolehnkoocnenaaGreatDoor.S
open Go Go.Sx Go.RowKit Gb Go.Shelf
end Go.Proofs.YtolehnkoocnenaaGreatDoor.S
namespace Gb
open Go Go.RowKit Go.Sx
end Gb
namespace Go.Proofs.YtolehnkoocnenaaGreatDoor.S
open Go Go.Sx Go.RowKit Gb Go.Shelf
end Go.Proofs.YtolehnkoocnenaaGreatDoor.S
namespace Go.Sx
open Go Go.RowKit Go.ChangeShapes Go.WideShapes Go.Shelf Go.Proofs
inductive Sh where
  | str
  | bool
  | int (k : IntKind)
  | agg (l : List Sh)
  | sl (e : Sh)
mutual
def shB (P : Program) : TypeId → Sh → Bool
  | t, .str => match P.underlying t with | some .string => true | _ => false
  | t, .bool => match P.underlying t with | some .bool => true | _ => false
  | t, .int k => match P.underlying t with | some (.int k') => decide (k' = k) | _ => false
  | t, .agg l => match P.underlying t with | some (.struct fs) => shsB P 0 (P.cellsOf t) (fs.toList.map fun f => (f.offset, f.type)) l | _ => false
  | t, .sl e => match P.underlying t with | some (.slice te) => decide (0 < P.cellsOf te) && shB P te e | _ => false
def shsB (P : Program) : Nat → Nat → List (Nat × TypeId) → List Sh → Bool
  | o, n, [], [] => decide (o = n)
  | o, n, f :: fs, s :: l => decide (f.1 = o) && shB P f.2 s && shsB P (o + P.cellsOf f.2) n fs l
  | _, _, _, _ => false
end
mutual
def Fit : Sh → List PV → Prop
  | .str, cs => ∃ s : ByteArray, cs = [.val (.string s)] ∧ s.size ≤ maxLen
  | .bool, cs => ∃ b, cs = [.val (.bool b)]
  | .int k, cs => ∃ n, cs = [.val (.int k n)] ∧ (Lit.int k n).wf = true
  | .agg l, cs => Fits l cs
  | .sl e, cs => ∃ ls : List (List PV), cs = [.sl ls.length ls.flatten] ∧ ls.length ≤ maxLen ∧ ∀ x ∈ ls, Fit e x
def Fits : List Sh → List PV → Prop
  | [], cs => cs = []
  | s :: l, cs => ∃ a b, cs = a ++ b ∧ Fit s a ∧ Fits l b
end
def Fit1 : Sh → PV → Prop
  | .agg l, x => ∃ cs, x = .agg cs ∧ Fits l cs
  | s, x => Fit s [x]
def FitA : List Sh → List PV → Prop
  | [], xs => xs = []
  | s :: l, xs => ∃ y ys, xs = y :: ys ∧ Fit1 s y ∧ FitA l ys
section
variable {H : Type} {enc : TypeId × Value → H} {P : Program} {W : World} {sp : Nat → Bool} {held : Bool}
theorem cell_lt {a : Addr} {v : Value} (h : W.cell? a = some v) : a.block < W.heap.size ∧ a.spot = none := by
  unfold World.cell? at h
  split at h
  · rename_i c _ _ hc
    refine ⟨(Array.getElem?_eq_some_iff.1 hc).1, ?_⟩
    split at h
    · cases h
    · rename_i hs
      cases hq : a.spot with
      | none => rfl
      | some x => rw [hq] at hs; simp at hs
  · cases h
theorem RepL.one {B : Nat → Prop} {x : PV} {v : Value} (h : RepP B W x v) : RepL B W [x] [v] := by
  simp only [RepL]
  exact ⟨v, [], rfl, h, rfl⟩
theorem addr_add (a : Addr) (i j : Nat) : (a.add i).add j = a.add (i + j) := by
  by_cases h1 : i = 0
  · subst h1; simp [Addr.add]
  · by_cases h2 : j = 0
    · subst h2; simp [Addr.add]
    · simp [Addr.add, h1, h2, show ¬ i + j = 0 by omega, Nat.add_assoc]
theorem rows_open {te : TypeId} {n : Nat} {a : Addr} {len : Nat} {elems : List (DataW H × List MemPlace)} (R : List PV → Prop) (hlen : elems.length = len)
    (hel : ∀ i, i < len → (W.cells? 0 (a.add (i * P.cellsOf te)) (P.cellsOf te)).bind (DataW.trod enc P W 0 sp held n te) = elems[i]?)
    (ho : ∀ cs x, DataW.trod enc P W 0 sp held n te cs = some x → ∃ pcs, RepL (· < W.heap.size) W pcs cs ∧ R pcs) :
    ∀ m, m ≤ len → ∃ (ls : List (List PV)) (vs : List Value), ls.length = m ∧ vs.length = m * P.cellsOf te ∧ RepL (· < W.heap.size) W ls.flatten vs ∧ (∀ j v, vs[j]? = some v → W.cell? (a.add j) = some v) ∧ ∀ x ∈ ls, R x
  | 0, _ => ⟨[], [], rfl, by simp, by simp [RepL], by simp, by simp⟩
  | m + 1, hm => by
    obtain ⟨ls, vs, h1, h2, h3, h4, h5⟩ := rows_open R hlen hel ho m (by omega)
    have hi := hel m (by omega)
    rw [List.getElem?_eq_getElem (show m < elems.length by omega)] at hi
    obtain ⟨cs, hcs, ht⟩ := Option.bind_eq_some_iff.1 hi
    obtain ⟨_, hcl, hcc⟩ := World.cells?_some hcs
    obtain ⟨pcs, hr, hR⟩ := ho cs _ ht
    refine ⟨ls ++ [pcs], vs ++ cs, by simp [h1], by rw [List.length_append, h2, hcl, Nat.succ_mul], ?_, ?_, ?_⟩
    · rw [List.flatten_append]
      exact RepL.append h3 (by simpa using hr)
    · intro j v hj
      by_cases hjl : j < vs.length
      · rw [List.getElem?_append_left hjl] at hj
        exact h4 j v hj
      · rw [List.getElem?_append_right (by omega)] at hj
        have hjc : j - vs.length < cs.length := (List.getElem?_eq_some_iff.1 hj).1
        have := hcc (j - vs.length) (by omega)
        rw [← hj, ← this]
        congr 1
        rw [addr_add, h2, show m * P.cellsOf te + (j - m * P.cellsOf te) = j by rw [h2] at hjl; omega]
    · intro x hx
      rcases List.mem_append.1 hx with hx | hx
      · exact h5 x hx
      · rw [List.mem_singleton] at hx
        rw [hx]; exact hR
mutual
theorem openS : ∀ (s : Sh) (t : TypeId) (fuel : Nat) (cs : List Value) (x : DataW H × List MemPlace), shB P t s = true → DataW.trod enc P W 0 sp held fuel t cs = some x → ∃ pcs, RepL (· < W.heap.size) W pcs cs ∧ Fit s pcs
  | .str, t, fuel, cs, x, hs, h => by
    unfold shB at hs
    split at hs
    · rename_i hu
      obtain ⟨s, rfl, rfl, hm⟩ := DataW.trod_string hu h
      exact ⟨[.val (.string s)], RepL.one (by simp [RepP]), by simp only [Fit]; exact ⟨s, rfl, hm⟩⟩
    · cases hs
  | .bool, t, fuel, cs, x, hs, h => by
    unfold shB at hs
    split at hs
    · rename_i hu
      obtain ⟨b, rfl, rfl⟩ := DataW.trod_bool hu h
      exact ⟨[.val (.bool b)], RepL.one (by simp [RepP]), by simp only [Fit]; exact ⟨b, rfl⟩⟩
    · cases hs
  | .int k, t, fuel, cs, x, hs, h => by
    unfold shB at hs
    split at hs
    · rename_i k' hu
      obtain rfl := of_decide_eq_true hs
      obtain ⟨n, rfl, rfl, hw⟩ := DataW.trod_int hu h
      exact ⟨[.val (.int k' n)], RepL.one (by simp [RepP]), by simp only [Fit]; exact ⟨n, rfl, hw⟩⟩
    · cases hs
  | .agg l, t, fuel, cs, x, hs, h => by
    unfold shB at hs
    split at hs
    · rename_i fs hu
      obtain ⟨xs, n, _, _, hl, hlen, hf⟩ := DataW.trod_struct hu h
      have := openSs l (fs.toList.map fun f => (f.offset, f.type)) 0 (P.cellsOf t) n cs hs hl fun i f hi => by
        rw [List.getElem?_map, Option.map_eq_some_iff] at hi
        obtain ⟨g, hg, rfl⟩ := hi
        rw [Array.getElem?_toList] at hg
        have h2 := hf i g hg
        have hi : i < fs.size := (Array.getElem?_eq_some_iff.1 hg).1
        rw [List.getElem?_eq_getElem (by omega)] at h2
        exact ⟨_, h2⟩
      simpa only [Fit, List.drop_zero] using this
    · cases hs
  | .sl e, t, fuel, cs, x, hs, h => by
    unfold shB at hs
    split at hs
    · rename_i te hu
      rw [Bool.and_eq_true, decide_eq_true_eq] at hs
      simp only [Fit]
      rcases DataW.trod_slice hu h with ⟨rfl, _⟩ | ⟨a, len, cap, elems, rest, n, _, rfl, _, _, hl, hm, hlen, hel, _⟩
      · refine ⟨[.sl 0 []], RepL.one ?_, [], rfl, by simp, by simp⟩
        simp only [RepP]
        exact ⟨none, 0, rfl, Nat.le_refl _, .inl rfl, .inl trivial⟩
      · obtain ⟨ls, vs, h1, h2, h3, h4, h5⟩ := rows_open (Fit e) hlen hel (fun cs x ht => openS e te n cs x hs.2 ht) len (Nat.le_refl _)
        refine ⟨[.sl ls.length ls.flatten], RepL.one ?_, ls, rfl, by omega, h5⟩
        simp only [RepP]
        refine ⟨some a, cap, by rw [h1], by omega, .inr (by simp), ?_⟩
        cases vs with
        | nil =>
          left
          have := h3.length
          exact List.eq_nil_of_length_eq_zero this.symm
        | cons v vs =>
          right
          have h0 := h4 0 v rfl
          obtain ⟨q1, q2⟩ := cell_lt h0
          obtain ⟨b, o, sp⟩ := a
          simp only [Addr.add] at q1 q2
          subst q2
          refine ⟨b, o, rfl, q1, RepC.of_vals h3 fun j v hj => ?_⟩
          have := h4 j v hj
          have e : (⟨b, o, none⟩ : Addr).add j = ⟨b, o + j, none⟩ := by
            unfold Addr.add
            split
            · subst_vars; rfl
            · rfl
          rwa [e] at this
    · cases hs
theorem openSs : ∀ (l : List Sh) (fs : List (Nat × TypeId)) (o n fuel : Nat) (cs : List Value), shsB P o n fs l = true → cs.length = n → (∀ (i : Nat) f, fs[i]? = some f → ∃ y, DataW.trod enc P W 0 sp held fuel f.2 ((cs.drop f.1).take (P.cellsOf f.2)) = some y) →
    ∃ pcs, RepL (· < W.heap.size) W pcs (cs.drop o) ∧ Fits l pcs
  | [], [], o, n, fuel, cs, hs, hn, _ => by
    simp only [shsB, decide_eq_true_eq] at hs
    refine ⟨[], ?_, by simp [Fits]⟩
    rw [List.drop_eq_nil_of_le (by omega)]
    simp [RepL]
  | s :: l, f :: fs, o, n, fuel, cs, hs, hn, hf => by
    simp only [shsB, Bool.and_eq_true, decide_eq_true_eq] at hs
    obtain ⟨⟨rfl, h2⟩, h3⟩ := hs
    obtain ⟨y, hy⟩ := hf 0 f rfl
    obtain ⟨p1, r1, f1⟩ := openS s f.2 fuel _ y h2 hy
    obtain ⟨p2, r2, f2⟩ := openSs l fs (f.1 + P.cellsOf f.2) n fuel cs h3 hn fun i g hg => hf (i + 1) g (by simpa using hg)
    refine ⟨p1 ++ p2, ?_, by simp only [Fits]; exact ⟨p1, p2, rfl, f1, f2⟩⟩
    have := RepL.append r1 r2
    rwa [← List.drop_drop, List.take_append_drop] at this
  | [], _ :: _, o, n, fuel, cs, hs, _, _ => by simp [shsB] at hs
  | _ :: _, [], o, n, fuel, cs, hs, _, _ => by simp [shsB] at hs
end
theorem openV {base : Nat} (s : Sh) (t : TypeId) (v : Value) (d : DataW H) (ps : List MemPlace) (hs : shB P t s = true) (hok : Value.okWide P W .any base t v) (h : DataW.Trod enc P W 0 sp held t v d ps) :
    ∃ x, RepP (· < W.heap.size) W x v ∧ Fit1 s x := by
  obtain ⟨fuel, hv⟩ := h
  obtain ⟨pcs, hr, hf⟩ := openS s t fuel _ _ hs hv
  cases s with
  | agg l =>
    unfold shB at hs
    split at hs
    · rename_i fs hu
      simp only [Value.okWide, hu] at hok
      obtain ⟨cs, rfl, _, _⟩ := hok
      refine ⟨.agg pcs, ?_, pcs, rfl, by simpa only [Fit] using hf⟩
      simp only [RepP]
      exact ⟨cs.toList, rfl, hr⟩
    · cases hs
  | str =>
    simp only [Fit] at hf
    obtain ⟨s, rfl, hm⟩ := hf
    unfold shB at hs
    split at hs
    · rename_i hu
      simp only [RepL, RepP] at hr
      obtain ⟨y, ys, hc, rfl, rfl⟩ := hr
      have : v = .string s := by
        cases v <;> simp [Value.cells, Value.okWide, hu, Cell.okWide, Cell.ok] at hc hok ⊢
        exact hc
      subst this
      exact ⟨.val (.string s), by simp [RepP], by simp only [Fit1, Fit]; exact ⟨s, rfl, hm⟩⟩
    · cases hs
  | bool =>
    simp only [Fit] at hf
    obtain ⟨s, rfl⟩ := hf
    unfold shB at hs
    split at hs
    · rename_i hu
      simp only [RepL, RepP] at hr
      obtain ⟨y, ys, hc, rfl, rfl⟩ := hr
      have : v = .bool s := by
        cases v <;> simp [Value.cells, Value.okWide, hu, Cell.okWide, Cell.ok] at hc hok ⊢
        exact hc
      subst this
      exact ⟨.val (.bool s), by simp [RepP], by simp only [Fit1, Fit]; exact ⟨s, rfl⟩⟩
    · cases hs
  | int k =>
    simp only [Fit] at hf
    obtain ⟨s, rfl, hm⟩ := hf
    unfold shB at hs
    split at hs
    · rename_i k' hu
      simp only [RepL, RepP] at hr
      obtain ⟨y, ys, hc, rfl, rfl⟩ := hr
      have : v = .int k s := by
        cases v <;> simp [Value.cells, Value.okWide, hu, Cell.okWide, Cell.ok] at hc hok ⊢
        exact hc
      subst this
      exact ⟨.val (.int k s), by simp [RepP], by simp only [Fit1, Fit]; exact ⟨s, rfl, hm⟩⟩
    · cases hs
  | sl e =>
    unfold shB at hs
    split at hs
    · rename_i te hu
      have hf' := hf
      simp only [Fit] at hf
      obtain ⟨ls, rfl, hm, hx⟩ := hf
      simp only [RepL] at hr
      obtain ⟨y, ys, hc, hr, rfl⟩ := hr
      have : v = y := by
        cases v <;> simp [Value.cells, Value.okWide, hu, Cell.okWide, Cell.ok] at hc hok ⊢ <;> first | exact hc | skip
      subst this
      exact ⟨_, hr, by simp only [Fit1]; exact hf'⟩
    · cases hs
def shAB (P : Program) : List TypeId → List Sh → Bool
  | [], [] => true
  | t :: ts, s :: l => shB P t s && shAB P ts l
  | _, _ => false
theorem openA {base : Nat} : ∀ (l : List Sh) (ts : List TypeId) (vs : List Value) (ds : List (DataW H)) (ps : List MemPlace), shAB P ts l = true → (∀ (j : Nat) t v, ts[j]? = some t → vs[j]? = some v → Value.okWide P W .any base t v) → DataW.TrodAll enc P W 0 sp held ts vs ds ps →
    ∃ xs, RepL (· < W.heap.size) W xs vs ∧ FitA l xs
  | [], [], [], [], ps, _, _, _ => ⟨[], by simp [RepL], by simp [FitA]⟩
  | s :: l, t :: ts, v :: vs, d :: ds, ps, hs, hok, h => by
    simp only [shAB, Bool.and_eq_true] at hs
    obtain ⟨p, q, h1, h2, rfl⟩ := h
    obtain ⟨x, rx, fx⟩ := openV s t v d p hs.1 (hok 0 t v rfl rfl) h1
    obtain ⟨xs, rxs, fxs⟩ := openA l ts vs ds q hs.2 (fun j t v h1 h2 => hok (j + 1) t v (by simpa using h1) (by simpa using h2)) h2
    refine ⟨x :: xs, ?_, by simp only [FitA]; exact ⟨x, xs, rfl, fx, fxs⟩⟩
    simp only [RepL]
    exact ⟨v, vs, rfl, rx, rxs⟩
  | [], _ :: _, _, _, _, hs, _, _ => by simp [shAB] at hs
  | _ :: _, [], _, _, _, hs, _, _ => by simp [shAB] at hs
  | [], [], _ :: _, _, _, _, _, h => h.elim
  | [], [], [], _ :: _, _, _, _, h => h.elim
  | _ :: _, _ :: _, [], _, _, _, _, h => h.elim
  | _ :: _, _ :: _, _ :: _, [], _, _, _, h => h.elim
theorem below_trodAll (hl : laidOutB P = true) {W' : World} (hb : Below W.heap.size W W') : ∀ {ts : List TypeId} {vs : List Value} {ds : List (DataW H)} {ps : List MemPlace}, (ts.all fun t => P.readableRec t && decide (t < P.types.size)) = true →
    DataW.TrodAll enc P W 0 (fun _ => true) true ts vs ds ps → DataW.TrodAll enc P W' 0 (fun b => decide (b < W.heap.size)) true ts vs ds ps
  | [], [], [], _, _, h => h
  | t :: ts, v :: vs, d :: ds, ps, ht, h => by
    have hlt := DataW.TrodAll.lt h
    obtain ⟨p, q, h1, h2, rfl⟩ := h
    rw [List.all_cons, Bool.and_eq_true, Bool.and_eq_true, decide_eq_true_eq] at ht
    exact ⟨p, q, Below.trod hl ht.1.1 ht.1.2 h1 hb fun x hx => hlt x (List.mem_append_left _ hx), below_trodAll hl hb ht.2 h2, rfl⟩
  | [], _ :: _, _, _, _, h => h.elim
  | [], [], _ :: _, _, _, h => h.elim
  | _ :: _, [], _, _, _, h => h.elim
  | _ :: _, _ :: _, [], _, _, h => h.elim
theorem law_calls {G : World → Prop} {f : FuncId} {base : Nat} {l : List Sh} {ts : List TypeId} {vs : List Value} {ds : List (DataW H)} {ps : List MemPlace} (hs : shAB P ts l = true) (law : ∀ xs, FitA l xs → Meets P G f xs (.val (.bool true)))
    (hok : ∀ (j : Nat) t v, ts[j]? = some t → vs[j]? = some v → Value.okWide P W .any base t v) (h : DataW.TrodAll enc P W 0 sp held ts vs ds ps) (hG : G W) :
    Calls P f ⟨vs⟩ W fun e W' => e = .returned (.bool true) ∧ Below W.heap.size W W' := by
  obtain ⟨xs, hr, hf⟩ := openA l ts vs ds ps hs hok h
  refine ((law xs hf).calls _ vs W (fun b hb => hb) hr hG).mono fun e W' ⟨v, he, hv, hb⟩ => ?_
  simp only [RepP] at hv
  subst hv
  exact ⟨he, hb⟩
end
def CloneC (P : Program) (F el : TypeId) (sz : Nat) : Prop := ∀ (v : Value) (n : Nat) (us : List Value) (w : World), ((v = .slice none 0 0 ∧ n = 0 ∧ us = []) ∨ ∃ ad c, v = .slice (some ad) n c ∧ us.length = n * sz ∧ (∀ j u, us[j]? = some u → w.cell? (ad.add j) = some u)) → (∀ u ∈ us, u.oneCell' = true) → n ≤ 1000000 →
  Calls P F #[v] w fun e w' => ∃ x, e = .returned x ∧ Below w.heap.size w w' ∧ w'.ownsRow w.heap.size el sz x n us
theorem clone_args {B : Nat → Prop} {w : World} {n sz : Nat} {cs : List PV} {v : Value} (hv : RepP B w (.sl n cs) v) (hl : cs.length = n * sz) : ∃ us, RepL B w cs us ∧ ((v = .slice none 0 0 ∧ n = 0 ∧ us = []) ∨ ∃ ad c, v = .slice (some ad) n c ∧ us.length = n * sz ∧ (∀ j u, us[j]? = some u → w.cell? (ad.add j) = some u)) := by
  simp only [RepP] at hv
  obtain ⟨a, c, rfl, h1, h2, h3⟩ := hv
  cases a with
  | none =>
    have hc : c = 0 := by
      rcases h2 with h | h
      · exact h
      · exact absurd rfl h
    subst hc
    have hn : n = 0 := by omega
    subst hn
    have : cs = [] := List.eq_nil_of_length_eq_zero (by rw [hl]; simp)
    subst this
    exact ⟨[], by simp [RepL], .inl ⟨rfl, rfl, rfl⟩⟩
  | some ad =>
    rcases h3 with rfl | ⟨b, o, e, hb, hr⟩
    · exact ⟨[], by simp [RepL], .inr ⟨ad, c, rfl, by simpa using hl, by simp⟩⟩
    · cases e
      obtain ⟨us, hu, hc⟩ := repC_cells hr
      exact ⟨us, hu, .inr ⟨_, c, rfl, by rw [hu.length, hl], hc⟩⟩
theorem ownsRow_zero {w : World} {b : Nat} {el : TypeId} {sz n : Nat} {x : Value} {us : List Value} (h : w.ownsRow b el sz x n us) : w.ownsRow 0 el sz x n us ∧ ∀ g, x.ownBlock = some g → b ≤ g ∧ g < w.heap.size := by
  refine ⟨⟨h.1, ?_⟩, h.lt⟩
  rcases h.2 with h | ⟨g, cap, cur, h1, _, h2⟩
  · exact .inl h
  · exact .inr ⟨g, cap, cur, h1, Nat.zero_le _, h2⟩
theorem clone_r {P : Program} {G : World → Prop} {F el : TypeId} {sz : Nat} (he : Enters P F) (h : CloneC P F el sz) {n : Nat} {cs : List PV} (hl : cs.length = n * sz) (hf : cs.all leafP = true) (hn : n ≤ 1000000) : MeetsR P G F [.sl n cs] ⟨el, sz, n, cs, false⟩ := by
  refine ⟨he, fun B vs w hB hr hG => ?_⟩
  simp only [RepL] at hr
  obtain ⟨v, _, rfl, hv, rfl⟩ := hr
  obtain ⟨us, hu, hc⟩ := clone_args hv hl
  refine (h v n us w hc (leaf_one hu hf) hn).mono fun e w' ⟨x, h1, h2, h3⟩ => ?_
  obtain ⟨h4, h5⟩ := ownsRow_zero h3
  refine ⟨x, us, h1, h2, h4, RepL.mono (fun b hb => ?_) _ _ hu, fun g hg => (h5 g hg).1⟩
  have hb1 := hB b hb
  refine ⟨⟨.inl hb, Nat.lt_of_lt_of_le hb1 h2.size, fun e => ?_⟩, h2.block _ hb1⟩
  have := (h5 b e).1
  omega
theorem clone_m {P : Program} {G : World → Prop} {F el : TypeId} {sz : Nat} (he : Enters P F) (h : CloneC P F el sz) {n : Nat} {cs : List PV} (hl : cs.length = n * sz) (hf : cs.all leafP = true) (hn : n ≤ 1000000) : Meets P G F [.sl n cs] (.sl n cs) := by
  refine ⟨he, fun B vs w hB hr hG => ?_⟩
  simp only [RepL] at hr
  obtain ⟨v, _, rfl, hv, rfl⟩ := hr
  obtain ⟨us, hu, hc⟩ := clone_args hv hl
  refine (h v n us w hc (leaf_one hu hf) hn).mono fun e w' ⟨x, h1, h2, h3⟩ => ?_
  obtain ⟨h4, h5⟩ := ownsRow_zero h3
  refine ⟨x, h1, ownsRow_slice h4 (RepL.mono (fun b hb => ?_) _ _ hu) fun g hg => ?_, h2⟩
  · have hb1 := hB b hb
    exact ⟨⟨.inl hb, Nat.lt_of_lt_of_le hb1 h2.size⟩, h2.block _ hb1⟩
  · exact ⟨.inr (h5 g hg).1, (h5 g hg).2⟩
end Go.Sx
namespace Go.Proofs.YtolehnkoocnenaaGreatDoor.S
open Go Go.Sx Go.RowKit Gb Go.Shelf
end Go.Proofs.YtolehnkoocnenaaGreatDoor.S
namespace Gb
open Go Go.RowKit Go.Sx
theorem la : (∀ (α : Type) (a : α) (l m : List α), List.append (a :: l) m = a :: List.append l m) ∧ (∀ (α : Type) (m : List α), List.append [] m = m) := ⟨fun _ _ _ _ => rfl, fun _ _ => rfl⟩
end Gb
namespace Go.Proofs.YtolehnkoocnenaaGreatDoor.S
open Go Go.Sx Go.RowKit Gb Go.Shelf
end Go.Proofs.YtolehnkoocnenaaGreatDoor.S
namespace Gb
open Go Go.RowKit Go.Sx
end Gb
namespace Go.Proofs.YtolehnkoocnenaaGreatDoor.S
open Go Go.Sx Go.RowKit Gb Go.Shelf
end Go.Proofs.YtolehnkoocnenaaGreatDoor.S
namespace Gb
open Go Go.RowKit Go.Sx
theorem str_eta (s : ByteArray) : (⟨s.data.toList.toArray⟩ : ByteArray) = s := by cases s; simp
theorem fit_str {x : PV} (h : Fit1 .str x) : ∃ a : List UInt8, x = strP a ∧ a.length ≤ maxLen := by
  simp only [Fit1, Fit] at h
  obtain ⟨s, h1, h2⟩ := h
  rw [List.cons.injEq] at h1
  exact ⟨s.data.toList, by rw [h1.1]; unfold strP; rw [str_eta], by rw [Array.length_toList]; exact h2⟩
theorem fit_int {k : IntKind} {x : PV} (h : Fit1 (.int k) x) : ∃ n, x = .val (.int k n) ∧ (Lit.int k n).wf = true := by
  simp only [Fit1, Fit] at h
  obtain ⟨n, h1, h2⟩ := h
  rw [List.cons.injEq] at h1
  exact ⟨n, h1.1, h2⟩
theorem fit_i {x : PV} (h : Fit1 (.int .i64) x) : ∃ n : Int, x = iP n ∧ -9223372036854775808 ≤ n ∧ n ≤ 9223372036854775807 := by
  obtain ⟨n, h1, h2⟩ := fit_int h
  exact ⟨n, h1, bounds_i64 h2⟩
theorem fita_nil {xs : List PV} (h : FitA [] xs) : xs = [] := h
theorem fita_cons {s : Sh} {l : List Sh} {xs : List PV} (h : FitA (s :: l) xs) : ∃ y ys, xs = y :: ys ∧ Fit1 s y ∧ FitA l ys := h
end Gb
namespace Gb
open Go Go.RowKit Go.Sx
end Gb
namespace Go.Proofs.YtolehnkoocnenaaGreatDoor.S
open Go Go.Sx Go.RowKit Gb Go.Shelf
end Go.Proofs.YtolehnkoocnenaaGreatDoor.S
namespace Gb
open Go Go.RowKit Go.Sx
theorem sq_cancel {a b c : Rat} (hc : 0 < c) (h : a * c ≤ b * c) : a ≤ b := Rat.not_lt.1 fun d => by
  have := Rat.mul_pos (show 0 < a - b by grind) hc; grind
end Gb
namespace Gb
open Go Go.RowKit Go.Sx
end Gb
namespace Gb
open Go Go.RowKit Go.Sx
theorem sq_one {x : Rat} (h1 : 0 - 1 ≤ x) (h2 : x ≤ 1) : x * x ≤ 1 := by
  have := Rat.mul_nonneg (show 0 ≤ 1 - x by grind) (show 0 ≤ 1 + x by grind)
  grind
theorem deg_at (n : Nat) (h1 : 1 ≤ n) (h2 : n ≤ 4) : ((degQ 0 n).1 ≤ 0 ∧ 0 ≤ (degQ 0 n).2) ∧ ((degQ 1 n).1 ≤ 90 ∧ 90 ≤ (degQ 1 n).2) ∧ ((degQ (-1) n).1 ≤ -90 ∧ -90 ≤ (degQ (-1) n).2) := by
  have : (List.range 4).all (fun k => decide (((degQ 0 (k + 1)).1 ≤ 0 ∧ 0 ≤ (degQ 0 (k + 1)).2) ∧ ((degQ 1 (k + 1)).1 ≤ 90 ∧ 90 ≤ (degQ 1 (k + 1)).2) ∧ ((degQ (-1) (k + 1)).1 ≤ -90 ∧ -90 ≤ (degQ (-1) (k + 1)).2))) = true := by decide +kernel
  have := List.all_eq_true.1 this (n - 1) (List.mem_range.2 (by omega))
  rw [show n - 1 + 1 = n by omega] at this
  simpa using this
theorem find_wi (d : Rat) (n : Nat) : ∀ (k : Nat) (o : Rat × Rat), o.1 ≤ o.2 → wi o (findL d n k o)
  | 0, o, h => ⟨Rat.le_refl, h, Rat.le_refl⟩
  | k + 1, o, h => by
    show wi o (match stepF d n o with | some o' => findL d n k o' | none => o)
    unfold stepF
    by_cases h1 : d < (degQ ((o.1 + o.2) * (1 / 2)) n).2
    · rw [if_pos h1]
      by_cases h2 : d < (degQ ((o.1 + o.2) * (1 / 2)) n).1
      · rw [if_pos h2]
        have := find_wi d n k (o.1, (o.1 + o.2) * (1 / 2)) (by dsimp only; grind)
        unfold wi at *
        dsimp only at *
        grind
      · rw [if_neg h2]; exact ⟨Rat.le_refl, h, Rat.le_refl⟩
    · rw [if_neg h1]
      have := find_wi d n k ((o.1 + o.2) * (1 / 2), o.2) (by dsimp only; grind)
      unfold wi at *
      dsimp only at *
      grind
theorem find_grid (d : Rat) (n : Nat) : ∀ (k i : Nat) (o : Rat × Rat), GridI i o → ∃ j, j ≤ i + k ∧ GridI j (findL d n k o)
  | 0, i, o, h => ⟨i, by omega, h⟩
  | k + 1, i, o, h => by
    show ∃ j, j ≤ i + (k + 1) ∧ GridI j (match stepF d n o with | some o' => findL d n k o' | none => o)
    unfold stepF
    by_cases h1 : d < (degQ ((o.1 + o.2) * (1 / 2)) n).2
    · rw [if_pos h1]
      by_cases h2 : d < (degQ ((o.1 + o.2) * (1 / 2)) n).1
      · rw [if_pos h2]
        obtain ⟨j, hj, hg⟩ := find_grid d n k (i + 1) _ (grid_lo h)
        exact ⟨j, by omega, hg⟩
      · rw [if_neg h2]; exact ⟨i, by omega, h⟩
    · rw [if_neg h1]
      obtain ⟨j, hj, hg⟩ := find_grid d n k (i + 1) _ (grid_hi h)
      exact ⟨j, by omega, hg⟩
theorem find_le (d : Rat) (n k : Nat) : (findL d n k (-1, 1)).1 ≤ (findL d n k (-1, 1)).2 := (find_wi d n k (-1, 1) (by decide +kernel)).2.1
end Gb
namespace Gb
open Go Go.RowKit Go.Sx
def long20 (a : List UInt8) : Bool := decide (20 < a.length)
theorem l20_no {l : List (List UInt8)} (h : l.any long20 = false) : ∀ a ∈ l, a.length ≤ 20 := fun a ha => by
  have h1 : ¬ long20 a = true := List.any_eq_false.1 h a ha
  unfold long20 at h1
  simpa using h1
theorem c35 : rtP (3 / 5) = strP [51, 47, 53] := (cst [51, 47, 53] (3 / 5) (by decide +kernel)).1
theorem c45x : rtP (4 / 5) = strP [52, 47, 53] := (cst [52, 47, 53] (4 / 5) (by decide +kernel)).1
theorem c34 : rtP (3 / 4) = strP [51, 47, 52] := (cst [51, 47, 52] (3 / 4) (by decide +kernel)).1
theorem c1124 : rtP (11 / 24) = strP [49, 49, 47, 50, 52] := (cst [49, 49, 47, 50, 52] (11 / 24) (by decide +kernel)).1
theorem c355 : rtP (355 / 113) = strP [51, 53, 53, 47, 49, 49, 51] ∧ Sz 1 (355 / 113 : Rat) := cst [51, 53, 53, 47, 49, 49, 51] (355 / 113) (by decide +kernel)
theorem aw6_c : acosP [49, 47, 50] = .tup [strP [51, 47, 53], iP 0] := by
  unfold acosP
  rw [if_pos (show achk [[49, 47, 50]] = 0 by decide +kernel), show cosQ (ratOf [49, 47, 50]) = 3 / 5 by decide +kernel, c35]
theorem aw6_s : asinP [49, 47, 50] = .tup [strP [52, 47, 53], iP 0] := by
  unfold asinP
  rw [if_pos (show achk [[49, 47, 50]] = 0 by decide +kernel), show sinQ (ratOf [49, 47, 50]) = 4 / 5 by decide +kernel, c45x]
theorem aw6_g : asumP [49, 47, 50] [49, 47, 50] = .tup [strP [], iP 15] := by
  unfold asumP
  rw [if_pos (show achk [[49, 47, 50], [49, 47, 50]] = 0 by decide +kernel), if_neg (show ¬ (1 - ratOf [49, 47, 50] * ratOf [49, 47, 50] = 0) by decide +kernel), if_neg (by decide +kernel)]
theorem aw6_t : asumP [49, 47, 51] [49, 47, 51] = .tup [strP [51, 47, 52], iP 0] := by
  unfold asumP
  rw [if_pos (show achk [[49, 47, 51], [49, 47, 51]] = 0 by decide +kernel), if_neg (show ¬ (1 - ratOf [49, 47, 51] * ratOf [49, 47, 51] = 0) by decide +kernel), if_pos (by decide +kernel), show (ratOf [49, 47, 51] + ratOf [49, 47, 51]) / (1 - ratOf [49, 47, 51] * ratOf [49, 47, 51]) = 3 / 4 by decide +kernel, c34]
theorem aw6_a : aarcP [49, 47, 50] 1 = .tup [ivP [49, 49, 47, 50, 52] [49, 47, 50], iP 0] := by
  unfold aarcP
  rw [if_pos (show askE [49, 47, 50] 1 = 0 by decide +kernel), show arcQ (ratOf [49, 47, 50]) (Int.toNat 1) = (11 / 24, 1 / 2) by decide +kernel]
  show PV.tup [.agg [rtP (11 / 24), rtP (1 / 2)], iP 0] = _
  rw [c1124, c12.1]; rfl
theorem aw6_d : adegP [49] 3 = .tup [ivQ (degQ 1 3), iP 0] := by
  unfold adegP
  rw [if_pos (show askE [49] 3 = 0 by decide +kernel), show ratOf [49] = 1 by decide +kernel]; rfl
theorem aw6_p : apiP 3 = .tup [ivQ (piQ 3), iP 0] := by
  unfold apiP
  rw [if_pos (show cntE 3 = 0 by decide +kernel)]; rfl
theorem aw6_b : afindP [57, 48] 3 2 = .tup [ivQ (findL 90 3 2 (-1, 1)), iP 0] := by
  unfold afindP
  rw [if_pos (show finE [57, 48] 3 2 = 0 by decide +kernel), show ratOf [57, 48] = 90 by decide +kernel]; rfl
theorem pi3 : (piQ 3).1 ≤ 355 / 113 ∧ 355 / 113 ≤ (piQ 3).2 := by decide +kernel
end Gb
namespace Go.Proofs.YtolehnkoocnenaaGreatDoor.S
open Go Go.Sx Go.RowKit Gb Go.Shelf
theorem has_q {p : Rat × Rat} {z : Rat} (sp : SzI 1900 p) (sz : Sz 1900 z) (h1 : p.1 ≤ z) (h2 : z ≤ p.2) : Meets Tryz.prog Gd 37 [ivQ p, rtP z] (.val (.bool true)) := by
  have := has_n (rT p.1) (rT p.2) (rT z) (by have := rT_len sp.1; omega) (by have := rT_len sp.2; omega) (by have := rT_len sz; omega)
  rw [isIv_rT (by grind), isRat_rT, ratOf_rT, ratOf_rT, ratOf_rT, decide_eq_false (show ¬ z < p.1 by grind), decide_eq_false (show ¬ p.2 < z by grind)] at this
  exact this
set_option maxRecDepth 100000 in
set_option maxHeartbeats 4000000 in
theorem long6_n (l : List (List UInt8)) (hl : l.length ≤ 9223372036854775807) : Meets Tryz.prog Gd 24 [.sl l.length (texts l)] (.val (.bool (l.any long20))) := by
  refine meets_of_vc (Y := {}) (N := 5) (rs := [.tmp 2]) mix tk gd Tryz.func24 rfl (by kernel_rfl) rfl rfl (by simp) (by kernel_rfl) ?_
  have h1 : ∀ a : List UInt8, Meets Tryz.prog Gd 66 [strP a] (.val (.bool (long20 a))) := fun a => by
    refine meets_of_vc (Y := {}) (N := 6) (rs := [.tmp 2]) mix tk gd Tryz.func66 rfl (by kernel_rfl) rfl rfl (by simp) (by kernel_rfl) ?_
    simp (maxSteps := 10000000) only [↓sx, sx, ↓ty, ↓reduceIte, Nat.reduceEqDiff, Nat.reduceBeqDiff, Nat.reduceAdd, Nat.reduceLeDiff, Nat.reduceLT, Nat.reduceMul, Nat.reduceSub, Int.reduceEq, Int.reduceBNe, Int.reduceBEq, ne_eq, not_false_eq_true, pc, ls, bs, and_true, true_and, and_self, Nat.reduceAdd, Nat.le_refl, leafP]
    have : decide ((a.length : Int) > 20) = long20 a := by unfold long20; congr 1; apply propext; omega
    rw [this]
  simp (maxSteps := 10000000) only [↓sx, sx, ↓ty, ↓reduceIte, Nat.reduceEqDiff, Nat.reduceBeqDiff, Nat.reduceAdd, Nat.reduceLeDiff, Nat.reduceLT, Nat.reduceMul, Nat.reduceSub, Int.reduceEq, Int.reduceBNe, Int.reduceBEq, ne_eq, not_false_eq_true, pc, ls, bs, and_true, true_and, and_self, Nat.reduceAdd, Nat.le_refl, leafP]
  refine CallT.mk (anyT_n 66 long20 l hl fun a ha => h1 a) ?_
  simp (maxSteps := 10000000) only [↓sx, sx, ↓ty, ↓reduceIte, Nat.reduceEqDiff, Nat.reduceBeqDiff, Nat.reduceAdd, Nat.reduceLeDiff, Nat.reduceLT, Nat.reduceMul, Nat.reduceSub, Int.reduceEq, Int.reduceBNe, Int.reduceBEq, ne_eq, not_false_eq_true, pc, ls, bs, and_true, true_and, and_self, Nat.reduceAdd, Nat.le_refl, leafP]
set_option maxRecDepth 100000 in
set_option maxHeartbeats 8000000 in
theorem awake6_n : Meets Tryz.prog Gd 11 [] (.val (.bool true)) := by
  refine meets_of_vc (Y := {}) (N := 103) (rs := [.tmp 0]) mix tk gd Tryz.func11 rfl (by kernel_rfl) rfl rfl (by simp) (by kernel_rfl) ?_
  have ha := acos_n [49, 47, 50] (by simp)
  have hb := asin_n [49, 47, 50] (by simp)
  have hc := asum_n [49, 47, 50] [49, 47, 50] (by simp) (by simp)
  have hd := asum_n [49, 47, 51] [49, 47, 51] (by simp) (by simp)
  have he := aarc_n [49, 47, 50] 1 (by simp) (by omega)
  have hf := adeg_n [49] 3 (by simp) (by omega)
  have hg := api_n 3 (by omega)
  have hh := afind_n [57, 48] 3 2 (by simp) (by omega)
  rw [aw6_c] at ha
  rw [aw6_s] at hb
  rw [aw6_g] at hc
  rw [aw6_t] at hd
  rw [aw6_a] at he
  rw [aw6_d] at hf
  rw [aw6_p] at hg
  rw [aw6_b] at hh
  have d3 := deg_at 3 (by omega) (by omega)
  have H1 := has_q (p := degQ 1 3) (z := 90) ((degQ_sz (c1.2.mono (by omega)) 3 (by omega)).mono (by omega)) (c90.2.mono (by omega)) d3.2.1.1 d3.2.1.2
  have H2 := has_q (p := piQ 3) (z := 355 / 113) ((piQ_sz 3 (by omega)).mono (by omega)) (c355.2.mono (by omega)) pi3.1 pi3.2
  rw [c90.1] at H1
  rw [c355.1] at H2
  have fl := find_le 90 3 2
  obtain ⟨j, hj, hg2⟩ := find_grid 90 3 2 0 (-1, 1) grid0
  have zf := (grid_sz (by omega) hg2).1
  have V := ivalid2_n (rT (findL 90 3 2 (-1, 1)).1) (rT (findL 90 3 2 (-1, 1)).2) (by have := rT_len zf.1; omega) (by have := rT_len zf.2; omega)
  rw [isIv_rT fl] at V
  clear d3 fl hg2 zf
  rw [ivQ_pair (findL 90 3 2 (-1, 1))] at hh
  generalize rT (findL 90 3 2 (-1, 1)).1 = f1 at *
  generalize rT (findL 90 3 2 (-1, 1)).2 = f2 at *
  generalize degQ 1 3 = dq at *
  generalize piQ 3 = pq at *
  rw [ivQ_pair] at hf hg H1 H2
  have W1 := avalid_n [45, 49] (by simp)
  have W2 := avalid_n [50] (by simp)
  rw [show (isRat [45, 49] && inU (ratOf [45, 49])) = true by decide +kernel] at W1
  rw [show (isRat [50] && inU (ratOf [50])) = false by decide +kernel] at W2
  simp (maxSteps := 10000000) only [↓sx, sx, ↓ty, ↓reduceIte, Nat.reduceEqDiff, Nat.reduceBeqDiff, Nat.reduceAdd, Nat.reduceLeDiff, Nat.reduceLT, Nat.reduceMul, Nat.reduceSub, Int.reduceEq, Int.reduceBNe, Int.reduceBEq, ne_eq, not_false_eq_true, pc, ls, bs, and_true, true_and, and_self, Nat.reduceAdd, Nat.le_refl, leafP, pi]
  refine CallT.mk (t := ⟨⟩) ha ?_
  simp (maxSteps := 10000000) only [↓sx, sx, ↓ty, ↓reduceIte, Nat.reduceEqDiff, Nat.reduceBeqDiff, Nat.reduceAdd, Nat.reduceLeDiff, Nat.reduceLT, Nat.reduceMul, Nat.reduceSub, Int.reduceEq, Int.reduceBNe, Int.reduceBEq, ne_eq, not_false_eq_true, pc, ls, bs, and_true, true_and, and_self, Nat.reduceAdd, Nat.le_refl, leafP, pi]
  refine CallT.mk (t := ⟨⟩) hb ?_
  simp (maxSteps := 10000000) only [↓sx, sx, ↓ty, ↓reduceIte, Nat.reduceEqDiff, Nat.reduceBeqDiff, Nat.reduceAdd, Nat.reduceLeDiff, Nat.reduceLT, Nat.reduceMul, Nat.reduceSub, Int.reduceEq, Int.reduceBNe, Int.reduceBEq, ne_eq, not_false_eq_true, pc, ls, bs, and_true, true_and, and_self, Nat.reduceAdd, Nat.le_refl, leafP, pi]
  refine CallT.mk (t := ⟨⟩) hc ?_
  simp (maxSteps := 10000000) only [↓sx, sx, ↓ty, ↓reduceIte, Nat.reduceEqDiff, Nat.reduceBeqDiff, Nat.reduceAdd, Nat.reduceLeDiff, Nat.reduceLT, Nat.reduceMul, Nat.reduceSub, Int.reduceEq, Int.reduceBNe, Int.reduceBEq, ne_eq, not_false_eq_true, pc, ls, bs, and_true, true_and, and_self, Nat.reduceAdd, Nat.le_refl, leafP, pi]
  refine CallT.mk (t := ⟨⟩) hd ?_
  simp (maxSteps := 10000000) only [↓sx, sx, ↓ty, ↓reduceIte, Nat.reduceEqDiff, Nat.reduceBeqDiff, Nat.reduceAdd, Nat.reduceLeDiff, Nat.reduceLT, Nat.reduceMul, Nat.reduceSub, Int.reduceEq, Int.reduceBNe, Int.reduceBEq, ne_eq, not_false_eq_true, pc, ls, bs, and_true, true_and, and_self, Nat.reduceAdd, Nat.le_refl, leafP, pi]
  refine CallT.mk (t := ⟨⟩) he ?_
  simp (maxSteps := 10000000) only [↓sx, sx, ↓ty, ↓reduceIte, Nat.reduceEqDiff, Nat.reduceBeqDiff, Nat.reduceAdd, Nat.reduceLeDiff, Nat.reduceLT, Nat.reduceMul, Nat.reduceSub, Int.reduceEq, Int.reduceBNe, Int.reduceBEq, ne_eq, not_false_eq_true, pc, ls, bs, and_true, true_and, and_self, Nat.reduceAdd, Nat.le_refl, leafP, pi]
  refine CallT.mk (t := ⟨⟩) hf ?_
  simp (maxSteps := 10000000) only [↓sx, sx, ↓ty, ↓reduceIte, Nat.reduceEqDiff, Nat.reduceBeqDiff, Nat.reduceAdd, Nat.reduceLeDiff, Nat.reduceLT, Nat.reduceMul, Nat.reduceSub, Int.reduceEq, Int.reduceBNe, Int.reduceBEq, ne_eq, not_false_eq_true, pc, ls, bs, and_true, true_and, and_self, Nat.reduceAdd, Nat.le_refl, leafP, pi]
  refine CallT.mk (t := ⟨⟩) hg ?_
  simp (maxSteps := 10000000) only [↓sx, sx, ↓ty, ↓reduceIte, Nat.reduceEqDiff, Nat.reduceBeqDiff, Nat.reduceAdd, Nat.reduceLeDiff, Nat.reduceLT, Nat.reduceMul, Nat.reduceSub, Int.reduceEq, Int.reduceBNe, Int.reduceBEq, ne_eq, not_false_eq_true, pc, ls, bs, and_true, true_and, and_self, Nat.reduceAdd, Nat.le_refl, leafP, pi]
  refine CallT.mk (t := ⟨⟩) hh ?_
  simp (maxSteps := 10000000) only [↓sx, sx, ↓ty, ↓reduceIte, Nat.reduceEqDiff, Nat.reduceBeqDiff, Nat.reduceAdd, Nat.reduceLeDiff, Nat.reduceLT, Nat.reduceMul, Nat.reduceSub, Int.reduceEq, Int.reduceBNe, Int.reduceBEq, ne_eq, not_false_eq_true, pc, ls, bs, and_true, true_and, and_self, Nat.reduceAdd, Nat.le_refl, leafP, pi, la, ag, beq_self_eq_true, w4, Int.reduceAdd]
  refine CallT.mk (t := ⟨⟩) H1 ?_
  simp (maxSteps := 10000000) only [↓sx, sx, ↓ty, ↓reduceIte, Nat.reduceEqDiff, Nat.reduceBeqDiff, Nat.reduceAdd, Nat.reduceLeDiff, Nat.reduceLT, Nat.reduceMul, Nat.reduceSub, Int.reduceEq, Int.reduceBNe, Int.reduceBEq, ne_eq, not_false_eq_true, pc, ls, bs, and_true, true_and, and_self, Nat.reduceAdd, Nat.le_refl, leafP, pi, la, ag, beq_self_eq_true]
  refine CallT.mk (t := ⟨⟩) H2 ?_
  simp (maxSteps := 10000000) only [↓sx, sx, ↓ty, ↓reduceIte, Nat.reduceEqDiff, Nat.reduceBeqDiff, Nat.reduceAdd, Nat.reduceLeDiff, Nat.reduceLT, Nat.reduceMul, Nat.reduceSub, Int.reduceEq, Int.reduceBNe, Int.reduceBEq, ne_eq, not_false_eq_true, pc, ls, bs, and_true, true_and, and_self, Nat.reduceAdd, Nat.le_refl, leafP, pi, la, ag, beq_self_eq_true]
  refine CallT.mk (t := ⟨⟩) V ?_
  simp (maxSteps := 10000000) only [↓sx, sx, ↓ty, ↓reduceIte, Nat.reduceEqDiff, Nat.reduceBeqDiff, Nat.reduceAdd, Nat.reduceLeDiff, Nat.reduceLT, Nat.reduceMul, Nat.reduceSub, Int.reduceEq, Int.reduceBNe, Int.reduceBEq, ne_eq, not_false_eq_true, pc, ls, bs, and_true, true_and, and_self, Nat.reduceAdd, Nat.le_refl, leafP, pi, la, ag, beq_self_eq_true]
  refine CallT.mk (t := ⟨⟩) W1 ?_
  simp (maxSteps := 10000000) only [↓sx, sx, ↓ty, ↓reduceIte, Nat.reduceEqDiff, Nat.reduceBeqDiff, Nat.reduceAdd, Nat.reduceLeDiff, Nat.reduceLT, Nat.reduceMul, Nat.reduceSub, Int.reduceEq, Int.reduceBNe, Int.reduceBEq, ne_eq, not_false_eq_true, pc, ls, bs, and_true, true_and, and_self, Nat.reduceAdd, Nat.le_refl, leafP, pi, la, ag, beq_self_eq_true]
  refine CallT.mk (t := ⟨⟩) W2 ?_
  simp (maxSteps := 10000000) only [↓sx, sx, ↓ty, ↓reduceIte, Nat.reduceEqDiff, Nat.reduceBeqDiff, Nat.reduceAdd, Nat.reduceLeDiff, Nat.reduceLT, Nat.reduceMul, Nat.reduceSub, Int.reduceEq, Int.reduceBNe, Int.reduceBEq, ne_eq, not_false_eq_true, pc, ls, bs, and_true, true_and, and_self, Nat.reduceAdd, Nat.le_refl, leafP, pi, la, ag, beq_self_eq_true]
end Go.Proofs.YtolehnkoocnenaaGreatDoor.S
namespace Gb
open Go Go.RowKit Go.Sx
theorem acos_form (l : List UInt8) : ∃ s e, acosP l = .tup [strP s, iP e] := by
  unfold acosP; split <;> exact ⟨_, _, rfl⟩
theorem asin_form (l : List UInt8) : ∃ s e, asinP l = .tup [strP s, iP e] := by
  unfold asinP; split <;> exact ⟨_, _, rfl⟩
theorem asum_form (a b : List UInt8) : ∃ s e, asumP a b = .tup [strP s, iP e] := by
  unfold asumP
  split
  · split
    · exact ⟨_, _, rfl⟩
    · split <;> exact ⟨_, _, rfl⟩
  · exact ⟨_, _, rfl⟩
theorem api_form (n : Int) : ∃ p q e, apiP n = .tup [ivP p q, iP e] := by
  unfold apiP; split <;> exact ⟨_, _, _, rfl⟩
theorem aarc_form (x : List UInt8) (n : Int) : ∃ p q e, aarcP x n = .tup [ivP p q, iP e] := by
  unfold aarcP; split <;> exact ⟨_, _, _, rfl⟩
theorem adeg_form (x : List UInt8) (n : Int) : ∃ p q e, adegP x n = .tup [ivP p q, iP e] := by
  unfold adegP; split <;> exact ⟨_, _, _, rfl⟩
theorem afind_form (x : List UInt8) (n k : Int) : ∃ p q e, afindP x n k = .tup [ivP p q, iP e] := by
  unfold afindP; split <;> exact ⟨_, _, _, rfl⟩
theorem valid_chk (s : List UInt8) : (isRat s && inU (ratOf s)) = (achk [s] == 0) := by
  unfold achk
  simp only [List.all_cons, List.all_nil, Bool.and_true]
  cases isRat s
  · rfl
  · cases inU (ratOf s) <;> rfl
end Gb
namespace Go.Proofs.YtolehnkoocnenaaGreatDoor.S
open Go Go.Sx Go.RowKit Gb Go.Shelf
set_option maxRecDepth 100000 in
set_option maxHeartbeats 16000000 in
theorem computes6_n (a b : List UInt8) : Meets Tryz.prog Gd 7 [strP a, strP b] (.val (.bool true)) := by
  refine meets_of_vc (Y := {}) (N := 93) (rs := [.tmp 4]) mix tk gd Tryz.func7 rfl (by kernel_rfl) rfl rfl (by simp) (by kernel_rfl) ?_
  simp (maxSteps := 10000000) only [↓sx, sx, ↓ty, ↓reduceIte, Nat.reduceEqDiff, Nat.reduceBeqDiff, Nat.reduceAdd, Nat.reduceLeDiff, Nat.reduceLT, Nat.reduceMul, Nat.reduceSub, Int.reduceEq, Int.reduceBNe, Int.reduceBEq, ne_eq, not_false_eq_true, pc, ls, bs, and_true, true_and, and_self, Nat.reduceAdd, Nat.le_refl, leafP]
  refine CallT.mk (t := ⟨⟩) awake6_n ?_
  simp (maxSteps := 10000000) only [↓sx, sx, ↓ty, ↓reduceIte, Nat.reduceEqDiff, Nat.reduceBeqDiff, Nat.reduceAdd, Nat.reduceLeDiff, Nat.reduceLT, Nat.reduceMul, Nat.reduceSub, Int.reduceEq, Int.reduceBNe, Int.reduceBEq, ne_eq, not_false_eq_true, pc, ls, bs, and_true, true_and, and_self, Nat.reduceAdd, Nat.le_refl, leafP]
  refine CallT.mk (t := ⟨⟩) (long6_n [a, b] (by simp)) ?_
  cases hw : [a, b].any long20 with
  | true =>
    simp (maxSteps := 10000000) only [↓sx, sx, ↓ty, ↓reduceIte, Nat.reduceEqDiff, Nat.reduceBeqDiff, Nat.reduceAdd, Nat.reduceLeDiff, Nat.reduceLT, Nat.reduceMul, Nat.reduceSub, Int.reduceEq, Int.reduceBNe, Int.reduceBEq, ne_eq, not_false_eq_true, pc, ls, bs, and_true, true_and, and_self, Nat.reduceAdd, Nat.le_refl, leafP]
    refine CallT.mk (t := ⟨⟩) awake6_n ?_
    simp (maxSteps := 10000000) only [↓sx, sx, ↓ty, ↓reduceIte, Nat.reduceEqDiff, Nat.reduceBeqDiff, Nat.reduceAdd, Nat.reduceLeDiff, Nat.reduceLT, Nat.reduceMul, Nat.reduceSub, Int.reduceEq, Int.reduceBNe, Int.reduceBEq, ne_eq, not_false_eq_true, pc, ls, bs, and_true, true_and, and_self, Nat.reduceAdd, Nat.le_refl, leafP]
  | false =>
    have hn := l20_no hw
    have l1 := hn a (by simp)
    have l2 := hn b (by simp)
    have C1 := acos_n a (by omega)
    have C2 := cosin6_n a (by omega)
    obtain ⟨r1, e1, h1⟩ := acos_form a
    rw [h1] at C1 C2
    have S1 := asin_n a (by omega)
    have S2 := sine6_n a (by omega)
    obtain ⟨r2, e2, h2⟩ := asin_form a
    rw [h2] at S1 S2
    have A1 := asum_n a b (by omega) (by omega)
    have A2 := sum6_n a b (by omega) (by omega)
    obtain ⟨r3, e3, h3⟩ := asum_form a b
    rw [h3] at A1 A2
    have V1 := avalid_n a (by omega)
    have V2 := valid6_n a (by omega)
    rw [valid_chk] at V1
    generalize (achk [a] == 0) = v at V1 V2
    simp (maxSteps := 10000000) only [↓sx, sx, ↓ty, ↓reduceIte, Nat.reduceEqDiff, Nat.reduceBeqDiff, Nat.reduceAdd, Nat.reduceLeDiff, Nat.reduceLT, Nat.reduceMul, Nat.reduceSub, Int.reduceEq, Int.reduceBNe, Int.reduceBEq, ne_eq, not_false_eq_true, pc, ls, bs, and_true, true_and, and_self, Nat.reduceAdd, Nat.le_refl, leafP]
    refine CallT.mk (t := ⟨⟩) C1 ?_
    simp (maxSteps := 10000000) only [↓sx, sx, ↓ty, ↓reduceIte, Nat.reduceEqDiff, Nat.reduceBeqDiff, Nat.reduceAdd, Nat.reduceLeDiff, Nat.reduceLT, Nat.reduceMul, Nat.reduceSub, Int.reduceEq, Int.reduceBNe, Int.reduceBEq, ne_eq, not_false_eq_true, pc, ls, bs, and_true, true_and, and_self, Nat.reduceAdd, Nat.le_refl, leafP]
    refine CallT.mk (t := ⟨⟩) C2 ?_
    simp (maxSteps := 10000000) only [↓sx, sx, ↓ty, ↓reduceIte, Nat.reduceEqDiff, Nat.reduceBeqDiff, Nat.reduceAdd, Nat.reduceLeDiff, Nat.reduceLT, Nat.reduceMul, Nat.reduceSub, Int.reduceEq, Int.reduceBNe, Int.reduceBEq, ne_eq, not_false_eq_true, pc, ls, bs, and_true, true_and, and_self, Nat.reduceAdd, Nat.le_refl, leafP]
    refine CallT.mk (t := ⟨⟩) S1 ?_
    simp (maxSteps := 10000000) only [↓sx, sx, ↓ty, ↓reduceIte, Nat.reduceEqDiff, Nat.reduceBeqDiff, Nat.reduceAdd, Nat.reduceLeDiff, Nat.reduceLT, Nat.reduceMul, Nat.reduceSub, Int.reduceEq, Int.reduceBNe, Int.reduceBEq, ne_eq, not_false_eq_true, pc, ls, bs, and_true, true_and, and_self, Nat.reduceAdd, Nat.le_refl, leafP]
    refine CallT.mk (t := ⟨⟩) S2 ?_
    simp (maxSteps := 10000000) only [↓sx, sx, ↓ty, ↓reduceIte, Nat.reduceEqDiff, Nat.reduceBeqDiff, Nat.reduceAdd, Nat.reduceLeDiff, Nat.reduceLT, Nat.reduceMul, Nat.reduceSub, Int.reduceEq, Int.reduceBNe, Int.reduceBEq, ne_eq, not_false_eq_true, pc, ls, bs, and_true, true_and, and_self, Nat.reduceAdd, Nat.le_refl, leafP]
    refine CallT.mk (t := ⟨⟩) A1 ?_
    simp (maxSteps := 10000000) only [↓sx, sx, ↓ty, ↓reduceIte, Nat.reduceEqDiff, Nat.reduceBeqDiff, Nat.reduceAdd, Nat.reduceLeDiff, Nat.reduceLT, Nat.reduceMul, Nat.reduceSub, Int.reduceEq, Int.reduceBNe, Int.reduceBEq, ne_eq, not_false_eq_true, pc, ls, bs, and_true, true_and, and_self, Nat.reduceAdd, Nat.le_refl, leafP]
    refine CallT.mk (t := ⟨⟩) A2 ?_
    simp (maxSteps := 10000000) only [↓sx, sx, ↓ty, ↓reduceIte, Nat.reduceEqDiff, Nat.reduceBeqDiff, Nat.reduceAdd, Nat.reduceLeDiff, Nat.reduceLT, Nat.reduceMul, Nat.reduceSub, Int.reduceEq, Int.reduceBNe, Int.reduceBEq, ne_eq, not_false_eq_true, pc, ls, bs, and_true, true_and, and_self, Nat.reduceAdd, Nat.le_refl, leafP, la, ag, beq_self_eq_true, ba_beq]
    refine CallT.mk (t := ⟨⟩) V1 ?_
    simp (maxSteps := 10000000) only [↓sx, sx, ↓ty, ↓reduceIte, Nat.reduceEqDiff, Nat.reduceBeqDiff, Nat.reduceAdd, Nat.reduceLeDiff, Nat.reduceLT, Nat.reduceMul, Nat.reduceSub, Int.reduceEq, Int.reduceBNe, Int.reduceBEq, ne_eq, not_false_eq_true, pc, ls, bs, and_true, true_and, and_self, Nat.reduceAdd, Nat.le_refl, leafP, la, ag, beq_self_eq_true, ba_beq]
    refine CallT.mk (t := ⟨⟩) V2 ?_
    simp (maxSteps := 10000000) only [↓sx, sx, ↓ty, ↓reduceIte, Nat.reduceEqDiff, Nat.reduceBeqDiff, Nat.reduceAdd, Nat.reduceLeDiff, Nat.reduceLT, Nat.reduceMul, Nat.reduceSub, Int.reduceEq, Int.reduceBNe, Int.reduceBEq, ne_eq, not_false_eq_true, pc, ls, bs, and_true, true_and, and_self, Nat.reduceAdd, Nat.le_refl, leafP, la, ag, beq_self_eq_true, ba_beq]
theorem computes6_law (xs : List PV) (h : FitA [.str, .str] xs) : Meets Tryz.prog Gd 7 xs (.val (.bool true)) := by
  obtain ⟨_, _, rfl, h1, h⟩ := fita_cons h
  obtain ⟨_, _, rfl, h2, h⟩ := fita_cons h
  obtain rfl := fita_nil h
  obtain ⟨a, rfl, _⟩ := fit_str h1
  obtain ⟨b, rfl, _⟩ := fit_str h2
  exact computes6_n a b
set_option maxRecDepth 100000 in
set_option maxHeartbeats 16000000 in
theorem encloses6_n (x : List UInt8) (n : Int) : Meets Tryz.prog Gd 3 [strP x, iP n] (.val (.bool true)) := by
  refine meets_of_vc (Y := {}) (N := 95) (rs := [.tmp 4]) mix tk gd Tryz.func3 rfl (by kernel_rfl) rfl rfl (by simp) (by kernel_rfl) ?_
  simp (maxSteps := 10000000) only [↓sx, sx, ↓ty, ↓reduceIte, Nat.reduceEqDiff, Nat.reduceBeqDiff, Nat.reduceAdd, Nat.reduceLeDiff, Nat.reduceLT, Nat.reduceMul, Nat.reduceSub, Int.reduceEq, Int.reduceBNe, Int.reduceBEq, ne_eq, not_false_eq_true, pc, ls, bs, and_true, true_and, and_self, Nat.reduceAdd, Nat.le_refl, leafP]
  refine CallT.mk (t := ⟨⟩) awake6_n ?_
  by_cases hx : x.length ≤ 9
  · have d1 : decide ((x.length : Int) > 9) = false := decide_eq_false (by omega)
    have main : (n ≤ 6 ∨ 24 < n) → ∀ (A B : Prop), True := fun _ _ _ => trivial
    by_cases h6 : n ≤ 6 ∨ 24 < n
    · have P1 := api_n n h6
      have P2 := pip6_n n h6
      obtain ⟨p1, q1, e1, g1⟩ := api_form n
      rw [g1] at P1 P2
      have A1 := aarc_n x n hx h6
      have A2 := arcp6_n x n hx h6
      obtain ⟨p2, q2, e2, g2⟩ := aarc_form x n
      rw [g2] at A1 A2
      have D1 := adeg_n x n hx h6
      have D2 := degp6_n x n hx h6
      obtain ⟨p3, q3, e3, g3⟩ := adeg_form x n
      rw [g3] at D1 D2
      by_cases h1 : n ≤ 6
      · have d2 : decide (n > 6) = false := decide_eq_false (by omega)
        simp (maxSteps := 10000000) only [↓sx, sx, ↓ty, ↓reduceIte, Nat.reduceEqDiff, Nat.reduceBeqDiff, Nat.reduceAdd, Nat.reduceLeDiff, Nat.reduceLT, Nat.reduceMul, Nat.reduceSub, Int.reduceEq, Int.reduceBNe, Int.reduceBEq, ne_eq, not_false_eq_true, pc, ls, bs, and_true, true_and, and_self, Nat.reduceAdd, Nat.le_refl, leafP, pi, d1, d2]
        refine CallT.mk (t := ⟨⟩) P1 ?_
        simp (maxSteps := 10000000) only [↓sx, sx, ↓ty, ↓reduceIte, Nat.reduceEqDiff, Nat.reduceBeqDiff, Nat.reduceAdd, Nat.reduceLeDiff, Nat.reduceLT, Nat.reduceMul, Nat.reduceSub, Int.reduceEq, Int.reduceBNe, Int.reduceBEq, ne_eq, not_false_eq_true, pc, ls, bs, and_true, true_and, and_self, Nat.reduceAdd, Nat.le_refl, leafP, pi]
        refine CallT.mk (t := ⟨⟩) P2 ?_
        simp (maxSteps := 10000000) only [↓sx, sx, ↓ty, ↓reduceIte, Nat.reduceEqDiff, Nat.reduceBeqDiff, Nat.reduceAdd, Nat.reduceLeDiff, Nat.reduceLT, Nat.reduceMul, Nat.reduceSub, Int.reduceEq, Int.reduceBNe, Int.reduceBEq, ne_eq, not_false_eq_true, pc, ls, bs, and_true, true_and, and_self, Nat.reduceAdd, Nat.le_refl, leafP, pi]
        refine CallT.mk (t := ⟨⟩) A1 ?_
        simp (maxSteps := 10000000) only [↓sx, sx, ↓ty, ↓reduceIte, Nat.reduceEqDiff, Nat.reduceBeqDiff, Nat.reduceAdd, Nat.reduceLeDiff, Nat.reduceLT, Nat.reduceMul, Nat.reduceSub, Int.reduceEq, Int.reduceBNe, Int.reduceBEq, ne_eq, not_false_eq_true, pc, ls, bs, and_true, true_and, and_self, Nat.reduceAdd, Nat.le_refl, leafP, pi]
        refine CallT.mk (t := ⟨⟩) A2 ?_
        simp (maxSteps := 10000000) only [↓sx, sx, ↓ty, ↓reduceIte, Nat.reduceEqDiff, Nat.reduceBeqDiff, Nat.reduceAdd, Nat.reduceLeDiff, Nat.reduceLT, Nat.reduceMul, Nat.reduceSub, Int.reduceEq, Int.reduceBNe, Int.reduceBEq, ne_eq, not_false_eq_true, pc, ls, bs, and_true, true_and, and_self, Nat.reduceAdd, Nat.le_refl, leafP, pi]
        refine CallT.mk (t := ⟨⟩) D1 ?_
        simp (maxSteps := 10000000) only [↓sx, sx, ↓ty, ↓reduceIte, Nat.reduceEqDiff, Nat.reduceBeqDiff, Nat.reduceAdd, Nat.reduceLeDiff, Nat.reduceLT, Nat.reduceMul, Nat.reduceSub, Int.reduceEq, Int.reduceBNe, Int.reduceBEq, ne_eq, not_false_eq_true, pc, ls, bs, and_true, true_and, and_self, Nat.reduceAdd, Nat.le_refl, leafP, pi]
        refine CallT.mk (t := ⟨⟩) D2 ?_
        simp (maxSteps := 10000000) only [↓sx, sx, ↓ty, ↓reduceIte, Nat.reduceEqDiff, Nat.reduceBeqDiff, Nat.reduceAdd, Nat.reduceLeDiff, Nat.reduceLT, Nat.reduceMul, Nat.reduceSub, Int.reduceEq, Int.reduceBNe, Int.reduceBEq, ne_eq, not_false_eq_true, pc, ls, bs, and_true, true_and, and_self, Nat.reduceAdd, Nat.le_refl, leafP, pi, la, ag, beq_self_eq_true]
      · have d2 : decide (n > 6) = true := decide_eq_true (by omega)
        have d3 : decide (n ≤ 24) = false := decide_eq_false (by omega)
        simp (maxSteps := 10000000) only [↓sx, sx, ↓ty, ↓reduceIte, Nat.reduceEqDiff, Nat.reduceBeqDiff, Nat.reduceAdd, Nat.reduceLeDiff, Nat.reduceLT, Nat.reduceMul, Nat.reduceSub, Int.reduceEq, Int.reduceBNe, Int.reduceBEq, ne_eq, not_false_eq_true, pc, ls, bs, and_true, true_and, and_self, Nat.reduceAdd, Nat.le_refl, leafP, pi, d1, d2, d3]
        refine CallT.mk (t := ⟨⟩) P1 ?_
        simp (maxSteps := 10000000) only [↓sx, sx, ↓ty, ↓reduceIte, Nat.reduceEqDiff, Nat.reduceBeqDiff, Nat.reduceAdd, Nat.reduceLeDiff, Nat.reduceLT, Nat.reduceMul, Nat.reduceSub, Int.reduceEq, Int.reduceBNe, Int.reduceBEq, ne_eq, not_false_eq_true, pc, ls, bs, and_true, true_and, and_self, Nat.reduceAdd, Nat.le_refl, leafP, pi]
        refine CallT.mk (t := ⟨⟩) P2 ?_
        simp (maxSteps := 10000000) only [↓sx, sx, ↓ty, ↓reduceIte, Nat.reduceEqDiff, Nat.reduceBeqDiff, Nat.reduceAdd, Nat.reduceLeDiff, Nat.reduceLT, Nat.reduceMul, Nat.reduceSub, Int.reduceEq, Int.reduceBNe, Int.reduceBEq, ne_eq, not_false_eq_true, pc, ls, bs, and_true, true_and, and_self, Nat.reduceAdd, Nat.le_refl, leafP, pi]
        refine CallT.mk (t := ⟨⟩) A1 ?_
        simp (maxSteps := 10000000) only [↓sx, sx, ↓ty, ↓reduceIte, Nat.reduceEqDiff, Nat.reduceBeqDiff, Nat.reduceAdd, Nat.reduceLeDiff, Nat.reduceLT, Nat.reduceMul, Nat.reduceSub, Int.reduceEq, Int.reduceBNe, Int.reduceBEq, ne_eq, not_false_eq_true, pc, ls, bs, and_true, true_and, and_self, Nat.reduceAdd, Nat.le_refl, leafP, pi]
        refine CallT.mk (t := ⟨⟩) A2 ?_
        simp (maxSteps := 10000000) only [↓sx, sx, ↓ty, ↓reduceIte, Nat.reduceEqDiff, Nat.reduceBeqDiff, Nat.reduceAdd, Nat.reduceLeDiff, Nat.reduceLT, Nat.reduceMul, Nat.reduceSub, Int.reduceEq, Int.reduceBNe, Int.reduceBEq, ne_eq, not_false_eq_true, pc, ls, bs, and_true, true_and, and_self, Nat.reduceAdd, Nat.le_refl, leafP, pi]
        refine CallT.mk (t := ⟨⟩) D1 ?_
        simp (maxSteps := 10000000) only [↓sx, sx, ↓ty, ↓reduceIte, Nat.reduceEqDiff, Nat.reduceBeqDiff, Nat.reduceAdd, Nat.reduceLeDiff, Nat.reduceLT, Nat.reduceMul, Nat.reduceSub, Int.reduceEq, Int.reduceBNe, Int.reduceBEq, ne_eq, not_false_eq_true, pc, ls, bs, and_true, true_and, and_self, Nat.reduceAdd, Nat.le_refl, leafP, pi]
        refine CallT.mk (t := ⟨⟩) D2 ?_
        simp (maxSteps := 10000000) only [↓sx, sx, ↓ty, ↓reduceIte, Nat.reduceEqDiff, Nat.reduceBeqDiff, Nat.reduceAdd, Nat.reduceLeDiff, Nat.reduceLT, Nat.reduceMul, Nat.reduceSub, Int.reduceEq, Int.reduceBNe, Int.reduceBEq, ne_eq, not_false_eq_true, pc, ls, bs, and_true, true_and, and_self, Nat.reduceAdd, Nat.le_refl, leafP, pi, la, ag, beq_self_eq_true]
    · have d2 : decide (n > 6) = true := decide_eq_true (by omega)
      have d3 : decide (n ≤ 24) = true := decide_eq_true (by omega)
      simp (maxSteps := 10000000) only [↓sx, sx, ↓ty, ↓reduceIte, Nat.reduceEqDiff, Nat.reduceBeqDiff, Nat.reduceAdd, Nat.reduceLeDiff, Nat.reduceLT, Nat.reduceMul, Nat.reduceSub, Int.reduceEq, Int.reduceBNe, Int.reduceBEq, ne_eq, not_false_eq_true, pc, ls, bs, and_true, true_and, and_self, Nat.reduceAdd, Nat.le_refl, leafP, d1, d2, d3]
      refine CallT.mk (t := ⟨⟩) awake6_n ?_
      simp (maxSteps := 10000000) only [↓sx, sx, ↓ty, ↓reduceIte, Nat.reduceEqDiff, Nat.reduceBeqDiff, Nat.reduceAdd, Nat.reduceLeDiff, Nat.reduceLT, Nat.reduceMul, Nat.reduceSub, Int.reduceEq, Int.reduceBNe, Int.reduceBEq, ne_eq, not_false_eq_true, pc, ls, bs, and_true, true_and, and_self, Nat.reduceAdd, Nat.le_refl, leafP]
  · have d1 : decide ((x.length : Int) > 9) = true := decide_eq_true (by omega)
    simp (maxSteps := 10000000) only [↓sx, sx, ↓ty, ↓reduceIte, Nat.reduceEqDiff, Nat.reduceBeqDiff, Nat.reduceAdd, Nat.reduceLeDiff, Nat.reduceLT, Nat.reduceMul, Nat.reduceSub, Int.reduceEq, Int.reduceBNe, Int.reduceBEq, ne_eq, not_false_eq_true, pc, ls, bs, and_true, true_and, and_self, Nat.reduceAdd, Nat.le_refl, leafP, d1]
    refine CallT.mk (t := ⟨⟩) awake6_n ?_
    simp (maxSteps := 10000000) only [↓sx, sx, ↓ty, ↓reduceIte, Nat.reduceEqDiff, Nat.reduceBeqDiff, Nat.reduceAdd, Nat.reduceLeDiff, Nat.reduceLT, Nat.reduceMul, Nat.reduceSub, Int.reduceEq, Int.reduceBNe, Int.reduceBEq, ne_eq, not_false_eq_true, pc, ls, bs, and_true, true_and, and_self, Nat.reduceAdd, Nat.le_refl, leafP]
theorem encloses6_law (xs : List PV) (h : FitA [.str, .int .i64] xs) : Meets Tryz.prog Gd 3 xs (.val (.bool true)) := by
  obtain ⟨_, _, rfl, h1, h⟩ := fita_cons h
  obtain ⟨_, _, rfl, h2, h⟩ := fita_cons h
  obtain rfl := fita_nil h
  obtain ⟨a, rfl, _⟩ := fit_str h1
  obtain ⟨n, rfl, _, _⟩ := fit_i h2
  exact encloses6_n a n
set_option maxRecDepth 100000 in
set_option maxHeartbeats 16000000 in
theorem finds6_n (x : List UInt8) (n k : Int) : Meets Tryz.prog Gd 4 [strP x, iP n, iP k] (.val (.bool true)) := by
  refine meets_of_vc (Y := {}) (N := 57) (rs := [.tmp 6]) mix tk gd Tryz.func4 rfl (by kernel_rfl) rfl rfl (by simp) (by kernel_rfl) ?_
  simp (maxSteps := 10000000) only [↓sx, sx, ↓ty, ↓reduceIte, Nat.reduceEqDiff, Nat.reduceBeqDiff, Nat.reduceAdd, Nat.reduceLeDiff, Nat.reduceLT, Nat.reduceMul, Nat.reduceSub, Int.reduceEq, Int.reduceBNe, Int.reduceBEq, ne_eq, not_false_eq_true, pc, ls, bs, and_true, true_and, and_self, Nat.reduceAdd, Nat.le_refl, leafP]
  refine CallT.mk (t := ⟨⟩) awake6_n ?_
  by_cases hx : x.length ≤ 9
  · have d1 : decide ((x.length : Int) > 9) = false := decide_eq_false (by omega)
    cases d2 : decide (n > 4) with
    | true =>
      cases d3 : decide (n ≤ 24) with
      | true =>
        simp (maxSteps := 10000000) only [↓sx, sx, ↓ty, ↓reduceIte, Nat.reduceEqDiff, Nat.reduceBeqDiff, Nat.reduceAdd, Nat.reduceLeDiff, Nat.reduceLT, Nat.reduceMul, Nat.reduceSub, Int.reduceEq, Int.reduceBNe, Int.reduceBEq, ne_eq, not_false_eq_true, pc, ls, bs, and_true, true_and, and_self, Nat.reduceAdd, Nat.le_refl, leafP, d1, d2, d3]
        refine CallT.mk (t := ⟨⟩) awake6_n ?_
        simp (maxSteps := 10000000) only [↓sx, sx, ↓ty, ↓reduceIte, Nat.reduceEqDiff, Nat.reduceBeqDiff, Nat.reduceAdd, Nat.reduceLeDiff, Nat.reduceLT, Nat.reduceMul, Nat.reduceSub, Int.reduceEq, Int.reduceBNe, Int.reduceBEq, ne_eq, not_false_eq_true, pc, ls, bs, and_true, true_and, and_self, Nat.reduceAdd, Nat.le_refl, leafP]
      | false =>
        have h3 := of_decide_eq_false d3
        cases d4 : decide (k > 6) with
        | true =>
          cases d5 : decide (k ≤ 24) with
          | true =>
            simp (maxSteps := 10000000) only [↓sx, sx, ↓ty, ↓reduceIte, Nat.reduceEqDiff, Nat.reduceBeqDiff, Nat.reduceAdd, Nat.reduceLeDiff, Nat.reduceLT, Nat.reduceMul, Nat.reduceSub, Int.reduceEq, Int.reduceBNe, Int.reduceBEq, ne_eq, not_false_eq_true, pc, ls, bs, and_true, true_and, and_self, Nat.reduceAdd, Nat.le_refl, leafP, d1, d2, d3, d4, d5]
            refine CallT.mk (t := ⟨⟩) awake6_n ?_
            simp (maxSteps := 10000000) only [↓sx, sx, ↓ty, ↓reduceIte, Nat.reduceEqDiff, Nat.reduceBeqDiff, Nat.reduceAdd, Nat.reduceLeDiff, Nat.reduceLT, Nat.reduceMul, Nat.reduceSub, Int.reduceEq, Int.reduceBNe, Int.reduceBEq, ne_eq, not_false_eq_true, pc, ls, bs, and_true, true_and, and_self, Nat.reduceAdd, Nat.le_refl, leafP]
          | false =>
            have F1 := afind_n x n k hx (by omega)
            have F2 := find6_n x n k hx (by omega)
            obtain ⟨p, q, e, g⟩ := afind_form x n k
            rw [g] at F1 F2
            simp (maxSteps := 10000000) only [↓sx, sx, ↓ty, ↓reduceIte, Nat.reduceEqDiff, Nat.reduceBeqDiff, Nat.reduceAdd, Nat.reduceLeDiff, Nat.reduceLT, Nat.reduceMul, Nat.reduceSub, Int.reduceEq, Int.reduceBNe, Int.reduceBEq, ne_eq, not_false_eq_true, pc, ls, bs, and_true, true_and, and_self, Nat.reduceAdd, Nat.le_refl, leafP, pi, d1, d2, d3, d4, d5]
            refine CallT.mk (t := ⟨⟩) F1 ?_
            simp (maxSteps := 10000000) only [↓sx, sx, ↓ty, ↓reduceIte, Nat.reduceEqDiff, Nat.reduceBeqDiff, Nat.reduceAdd, Nat.reduceLeDiff, Nat.reduceLT, Nat.reduceMul, Nat.reduceSub, Int.reduceEq, Int.reduceBNe, Int.reduceBEq, ne_eq, not_false_eq_true, pc, ls, bs, and_true, true_and, and_self, Nat.reduceAdd, Nat.le_refl, leafP, pi]
            refine CallT.mk (t := ⟨⟩) F2 ?_
            simp (maxSteps := 10000000) only [↓sx, sx, ↓ty, ↓reduceIte, Nat.reduceEqDiff, Nat.reduceBeqDiff, Nat.reduceAdd, Nat.reduceLeDiff, Nat.reduceLT, Nat.reduceMul, Nat.reduceSub, Int.reduceEq, Int.reduceBNe, Int.reduceBEq, ne_eq, not_false_eq_true, pc, ls, bs, and_true, true_and, and_self, Nat.reduceAdd, Nat.le_refl, leafP, pi, la, ag, beq_self_eq_true]
        | false =>
          have F1 := afind_n x n k hx (by omega)
          have F2 := find6_n x n k hx (by omega)
          obtain ⟨p, q, e, g⟩ := afind_form x n k
          rw [g] at F1 F2
          simp (maxSteps := 10000000) only [↓sx, sx, ↓ty, ↓reduceIte, Nat.reduceEqDiff, Nat.reduceBeqDiff, Nat.reduceAdd, Nat.reduceLeDiff, Nat.reduceLT, Nat.reduceMul, Nat.reduceSub, Int.reduceEq, Int.reduceBNe, Int.reduceBEq, ne_eq, not_false_eq_true, pc, ls, bs, and_true, true_and, and_self, Nat.reduceAdd, Nat.le_refl, leafP, pi, d1, d2, d3, d4]
          refine CallT.mk (t := ⟨⟩) F1 ?_
          simp (maxSteps := 10000000) only [↓sx, sx, ↓ty, ↓reduceIte, Nat.reduceEqDiff, Nat.reduceBeqDiff, Nat.reduceAdd, Nat.reduceLeDiff, Nat.reduceLT, Nat.reduceMul, Nat.reduceSub, Int.reduceEq, Int.reduceBNe, Int.reduceBEq, ne_eq, not_false_eq_true, pc, ls, bs, and_true, true_and, and_self, Nat.reduceAdd, Nat.le_refl, leafP, pi]
          refine CallT.mk (t := ⟨⟩) F2 ?_
          simp (maxSteps := 10000000) only [↓sx, sx, ↓ty, ↓reduceIte, Nat.reduceEqDiff, Nat.reduceBeqDiff, Nat.reduceAdd, Nat.reduceLeDiff, Nat.reduceLT, Nat.reduceMul, Nat.reduceSub, Int.reduceEq, Int.reduceBNe, Int.reduceBEq, ne_eq, not_false_eq_true, pc, ls, bs, and_true, true_and, and_self, Nat.reduceAdd, Nat.le_refl, leafP, pi, la, ag, beq_self_eq_true]
    | false =>
      have h3 := of_decide_eq_false d2
      cases d4 : decide (k > 6) with
      | true =>
        cases d5 : decide (k ≤ 24) with
        | true =>
          simp (maxSteps := 10000000) only [↓sx, sx, ↓ty, ↓reduceIte, Nat.reduceEqDiff, Nat.reduceBeqDiff, Nat.reduceAdd, Nat.reduceLeDiff, Nat.reduceLT, Nat.reduceMul, Nat.reduceSub, Int.reduceEq, Int.reduceBNe, Int.reduceBEq, ne_eq, not_false_eq_true, pc, ls, bs, and_true, true_and, and_self, Nat.reduceAdd, Nat.le_refl, leafP, d1, d2, d4, d5]
          refine CallT.mk (t := ⟨⟩) awake6_n ?_
          simp (maxSteps := 10000000) only [↓sx, sx, ↓ty, ↓reduceIte, Nat.reduceEqDiff, Nat.reduceBeqDiff, Nat.reduceAdd, Nat.reduceLeDiff, Nat.reduceLT, Nat.reduceMul, Nat.reduceSub, Int.reduceEq, Int.reduceBNe, Int.reduceBEq, ne_eq, not_false_eq_true, pc, ls, bs, and_true, true_and, and_self, Nat.reduceAdd, Nat.le_refl, leafP]
        | false =>
          have F1 := afind_n x n k hx (by omega)
          have F2 := find6_n x n k hx (by omega)
          obtain ⟨p, q, e, g⟩ := afind_form x n k
          rw [g] at F1 F2
          simp (maxSteps := 10000000) only [↓sx, sx, ↓ty, ↓reduceIte, Nat.reduceEqDiff, Nat.reduceBeqDiff, Nat.reduceAdd, Nat.reduceLeDiff, Nat.reduceLT, Nat.reduceMul, Nat.reduceSub, Int.reduceEq, Int.reduceBNe, Int.reduceBEq, ne_eq, not_false_eq_true, pc, ls, bs, and_true, true_and, and_self, Nat.reduceAdd, Nat.le_refl, leafP, pi, d1, d2, d4, d5]
          refine CallT.mk (t := ⟨⟩) F1 ?_
          simp (maxSteps := 10000000) only [↓sx, sx, ↓ty, ↓reduceIte, Nat.reduceEqDiff, Nat.reduceBeqDiff, Nat.reduceAdd, Nat.reduceLeDiff, Nat.reduceLT, Nat.reduceMul, Nat.reduceSub, Int.reduceEq, Int.reduceBNe, Int.reduceBEq, ne_eq, not_false_eq_true, pc, ls, bs, and_true, true_and, and_self, Nat.reduceAdd, Nat.le_refl, leafP, pi]
          refine CallT.mk (t := ⟨⟩) F2 ?_
          simp (maxSteps := 10000000) only [↓sx, sx, ↓ty, ↓reduceIte, Nat.reduceEqDiff, Nat.reduceBeqDiff, Nat.reduceAdd, Nat.reduceLeDiff, Nat.reduceLT, Nat.reduceMul, Nat.reduceSub, Int.reduceEq, Int.reduceBNe, Int.reduceBEq, ne_eq, not_false_eq_true, pc, ls, bs, and_true, true_and, and_self, Nat.reduceAdd, Nat.le_refl, leafP, pi, la, ag, beq_self_eq_true]
      | false =>
        have F1 := afind_n x n k hx (by omega)
        have F2 := find6_n x n k hx (by omega)
        obtain ⟨p, q, e, g⟩ := afind_form x n k
        rw [g] at F1 F2
        simp (maxSteps := 10000000) only [↓sx, sx, ↓ty, ↓reduceIte, Nat.reduceEqDiff, Nat.reduceBeqDiff, Nat.reduceAdd, Nat.reduceLeDiff, Nat.reduceLT, Nat.reduceMul, Nat.reduceSub, Int.reduceEq, Int.reduceBNe, Int.reduceBEq, ne_eq, not_false_eq_true, pc, ls, bs, and_true, true_and, and_self, Nat.reduceAdd, Nat.le_refl, leafP, pi, d1, d2, d4]
        refine CallT.mk (t := ⟨⟩) F1 ?_
        simp (maxSteps := 10000000) only [↓sx, sx, ↓ty, ↓reduceIte, Nat.reduceEqDiff, Nat.reduceBeqDiff, Nat.reduceAdd, Nat.reduceLeDiff, Nat.reduceLT, Nat.reduceMul, Nat.reduceSub, Int.reduceEq, Int.reduceBNe, Int.reduceBEq, ne_eq, not_false_eq_true, pc, ls, bs, and_true, true_and, and_self, Nat.reduceAdd, Nat.le_refl, leafP, pi]
        refine CallT.mk (t := ⟨⟩) F2 ?_
        simp (maxSteps := 10000000) only [↓sx, sx, ↓ty, ↓reduceIte, Nat.reduceEqDiff, Nat.reduceBeqDiff, Nat.reduceAdd, Nat.reduceLeDiff, Nat.reduceLT, Nat.reduceMul, Nat.reduceSub, Int.reduceEq, Int.reduceBNe, Int.reduceBEq, ne_eq, not_false_eq_true, pc, ls, bs, and_true, true_and, and_self, Nat.reduceAdd, Nat.le_refl, leafP, pi, la, ag, beq_self_eq_true]
  · have d1 : decide ((x.length : Int) > 9) = true := decide_eq_true (by omega)
    simp (maxSteps := 10000000) only [↓sx, sx, ↓ty, ↓reduceIte, Nat.reduceEqDiff, Nat.reduceBeqDiff, Nat.reduceAdd, Nat.reduceLeDiff, Nat.reduceLT, Nat.reduceMul, Nat.reduceSub, Int.reduceEq, Int.reduceBNe, Int.reduceBEq, ne_eq, not_false_eq_true, pc, ls, bs, and_true, true_and, and_self, Nat.reduceAdd, Nat.le_refl, leafP, d1]
    refine CallT.mk (t := ⟨⟩) awake6_n ?_
    simp (maxSteps := 10000000) only [↓sx, sx, ↓ty, ↓reduceIte, Nat.reduceEqDiff, Nat.reduceBeqDiff, Nat.reduceAdd, Nat.reduceLeDiff, Nat.reduceLT, Nat.reduceMul, Nat.reduceSub, Int.reduceEq, Int.reduceBNe, Int.reduceBEq, ne_eq, not_false_eq_true, pc, ls, bs, and_true, true_and, and_self, Nat.reduceAdd, Nat.le_refl, leafP]
theorem finds6_law (xs : List PV) (h : FitA [.str, .int .i64, .int .i64] xs) : Meets Tryz.prog Gd 4 xs (.val (.bool true)) := by
  obtain ⟨_, _, rfl, h1, h⟩ := fita_cons h
  obtain ⟨_, _, rfl, h2, h⟩ := fita_cons h
  obtain ⟨_, _, rfl, h3, h⟩ := fita_cons h
  obtain rfl := fita_nil h
  obtain ⟨a, rfl, _⟩ := fit_str h1
  obtain ⟨n, rfl, _, _⟩ := fit_i h2
  obtain ⟨k, rfl, _, _⟩ := fit_i h3
  exact finds6_n a n k
end Go.Proofs.YtolehnkoocnenaaGreatDoor.S
namespace Gb
open Go Go.RowKit Go.Sx
theorem chk1 {x : Rat} (h : inU x = true) : achk [rT x] = 0 := by unfold achk; simp [isRat_rT, ratOf_rT, h]
theorem chk2 {x y : Rat} (h : inU x = true) (k : inU y = true) : achk [rT x, rT y] = 0 := by rw [achk2]; simp [isRat_rT, ratOf_rT, h, k]
theorem acosP_q {x : Rat} (h : inU x = true) : acosP (rT x) = .tup [rtP (cosQ x), iP 0] := by unfold acosP; rw [if_pos (chk1 h), ratOf_rT]
theorem asinP_q {x : Rat} (h : inU x = true) : asinP (rT x) = .tup [rtP (sinQ x), iP 0] := by unfold asinP; rw [if_pos (chk1 h), ratOf_rT]
theorem asumP_q {x y : Rat} (h : inU x = true) (k : inU y = true) (h0 : 1 - x * y ≠ 0) {z : Rat} (hz : (x + y) / (1 - x * y) = z) (hu : inU z = true) : asumP (rT x) (rT y) = .tup [rtP z, iP 0] := by
  unfold asumP
  rw [if_pos (chk2 h k), ratOf_rT, ratOf_rT, if_neg h0, hz, if_pos hu]
theorem asumP_comm (a b : List UInt8) : asumP a b = asumP b a := by
  have h1 : achk [a, b] = achk [b, a] := by rw [achk2, achk2, Bool.and_comm, Bool.and_comm (inU (ratOf a))]
  unfold asumP
  rw [h1, Rat.mul_comm (ratOf a), Rat.add_comm (ratOf a)]
theorem cos_mul (x : Rat) : cosQ x * (1 + x * x) = 1 - x * x := by
  have := one_sq x
  unfold cosQ; grind
theorem sin_mul (x : Rat) : sinQ x * (1 + x * x) = 2 * x := by
  have := one_sq x
  unfold sinQ; grind
theorem mul_canc {a b c : Rat} (hc : c ≠ 0) (h : a * c = b * c) : a = b := by grind
theorem circ (x : Rat) : cosQ x * cosQ x + sinQ x * sinQ x = 1 := by
  have h := one_sq x
  have h1 := cos_mul x
  have h2 := sin_mul x
  generalize cosQ x = c at *
  generalize sinQ x = s at *
  refine mul_canc h (mul_canc h ?_)
  have e1 : c * c * (1 + x * x) * (1 + x * x) = (1 - x * x) * (1 - x * x) := by rw [← h1]; grind
  have e2 : s * s * (1 + x * x) * (1 + x * x) = (2 * x) * (2 * x) := by rw [← h2]; grind
  grind
theorem cos_neg (x : Rat) : cosQ (x * (-1)) = cosQ x := by unfold cosQ; rw [show x * (-1) * (x * (-1)) = x * x by grind]
theorem sin_neg (x : Rat) : sinQ (x * (-1)) = sinQ x * (-1) := by
  refine mul_canc (one_sq x) ?_
  have h1 := sin_mul x
  have h2 := sin_mul (x * (-1))
  rw [show x * (-1) * (x * (-1)) = x * x by grind] at h2
  grind
theorem cos_nn {x : Rat} (h : inU x = true) : 0 ≤ cosQ x := by
  obtain ⟨h1, h2⟩ := inU_rec h
  have h3 := sq_one h1 h2
  have h4 := sq_nonneg x
  refine sq_cancel (c := 1 + x * x) (by grind) ?_
  rw [cos_mul]; grind
theorem inU_m {x : Rat} (h : inU x = true) : inU (x * (-1)) = true := by
  have := inU_neg h
  rwa [show 0 - x = x * (-1) by grind] at this
theorem sum_sq {s t u : Rat} (hu : u * (1 - s * t) = s + t) : (1 + u * u) * ((1 - s * t) * (1 - s * t)) = (1 + s * s) * (1 + t * t) := by
  have : u * u * ((1 - s * t) * (1 - s * t)) = (s + t) * (s + t) := by rw [← hu]; grind
  grind
theorem cos_add {s t u : Rat} (hu : u * (1 - s * t) = s + t) : cosQ u = cosQ s * cosQ t - sinQ s * sinQ t := by
  have hd := sum_sq hu
  have a := one_sq s
  have b := one_sq t
  refine mul_canc a (mul_canc b ?_)
  have e0 : cosQ u * (1 + s * s) * (1 + t * t) = (1 - s * t) * (1 - s * t) - (s + t) * (s + t) := by
    have : cosQ u * (1 + s * s) * (1 + t * t) = cosQ u * (1 + u * u) * ((1 - s * t) * (1 - s * t)) := by grind
    rw [this, cos_mul, ← hu]; grind
  rw [e0]
  have c1 := cos_mul s
  have c2 := cos_mul t
  have s1 := sin_mul s
  have s2 := sin_mul t
  generalize cosQ s = x1 at *
  generalize cosQ t = x2 at *
  generalize sinQ s = y1 at *
  generalize sinQ t = y2 at *
  have e1 : x1 * x2 * (1 + s * s) * (1 + t * t) = (1 - s * s) * (1 - t * t) := by rw [← c1, ← c2]; grind
  have e2 : y1 * y2 * (1 + s * s) * (1 + t * t) = (2 * s) * (2 * t) := by rw [← s1, ← s2]; grind
  grind
theorem sin_add {s t u : Rat} (hu : u * (1 - s * t) = s + t) : sinQ u = cosQ s * sinQ t + sinQ s * cosQ t := by
  have hd := sum_sq hu
  have a := one_sq s
  have b := one_sq t
  refine mul_canc a (mul_canc b ?_)
  have e0 : sinQ u * (1 + s * s) * (1 + t * t) = 2 * (s + t) * (1 - s * t) := by
    have : sinQ u * (1 + s * s) * (1 + t * t) = sinQ u * (1 + u * u) * ((1 - s * t) * (1 - s * t)) := by grind
    rw [this, sin_mul, ← hu]; grind
  rw [e0]
  have c1 := cos_mul s
  have c2 := cos_mul t
  have s1 := sin_mul s
  have s2 := sin_mul t
  generalize cosQ s = x1 at *
  generalize cosQ t = x2 at *
  generalize sinQ s = y1 at *
  generalize sinQ t = y2 at *
  have e1 : y1 * x2 * (1 + s * s) * (1 + t * t) = (2 * s) * (1 - t * t) := by rw [← s1, ← c2]; grind
  have e2 : x1 * y2 * (1 + s * s) * (1 + t * t) = (1 - s * s) * (2 * t) := by rw [← c1, ← s2]; grind
  grind
theorem back_ne {s t u : Rat} (hd : 1 - s * t ≠ 0) (hu : u * (1 - s * t) = s + t) : 1 - u * (t * (-1)) ≠ 0 := by
  intro h
  have h1 := one_sq t
  have : (1 - u * (t * (-1))) * (1 - s * t) = 1 + t * t := by grind
  rw [h] at this
  grind
theorem back_eq {s t u : Rat} (hd : 1 - s * t ≠ 0) (hu : u * (1 - s * t) = s + t) : (u + t * (-1)) / (1 - u * (t * (-1))) = s := by
  have h0 := back_ne hd hu
  have : u + t * (-1) = s * (1 - u * (t * (-1))) := mul_canc hd (by grind)
  rw [this]
  generalize 1 - u * (t * (-1)) = q at *
  grind
end Gb
namespace Go.Proofs.YtolehnkoocnenaaGreatDoor.S
open Go Go.Sx Go.RowKit Gb Go.Shelf
theorem acos_q (x : Rat) (h : inU x = true) (hx : Sz 30 x) : Meets Tryz.prog Gd 25 [rtP x] (.tup [rtP (cosQ x), iP 0]) := by
  have := acos_n (rT x) (by have := rT_len hx; omega)
  rwa [acosP_q h] at this
theorem asin_q (x : Rat) (h : inU x = true) (hx : Sz 30 x) : Meets Tryz.prog Gd 27 [rtP x] (.tup [rtP (sinQ x), iP 0]) := by
  have := asin_n (rT x) (by have := rT_len hx; omega)
  rwa [asinP_q h] at this
set_option maxRecDepth 100000 in
set_option maxHeartbeats 16000000 in
theorem circle6_n (t : List UInt8) : Meets Tryz.prog Gd 8 [strP t] (.val (.bool true)) := by
  refine meets_of_vc (Y := {}) (N := 140) (rs := [.tmp 2]) mix tk gd Tryz.func8 rfl (by kernel_rfl) rfl rfl (by simp) (by kernel_rfl) ?_
  simp (maxSteps := 10000000) only [↓sx, sx, ↓ty, ↓reduceIte, Nat.reduceEqDiff, Nat.reduceBeqDiff, Nat.reduceAdd, Nat.reduceLeDiff, Nat.reduceLT, Nat.reduceMul, Nat.reduceSub, Int.reduceEq, Int.reduceBNe, Int.reduceBEq, ne_eq, not_false_eq_true, pc, ls, bs, and_true, true_and, and_self, Nat.reduceAdd, Nat.le_refl, leafP]
  refine CallT.mk (t := ⟨⟩) awake6_n ?_
  simp (maxSteps := 10000000) only [↓sx, sx, ↓ty, ↓reduceIte, Nat.reduceEqDiff, Nat.reduceBeqDiff, Nat.reduceAdd, Nat.reduceLeDiff, Nat.reduceLT, Nat.reduceMul, Nat.reduceSub, Int.reduceEq, Int.reduceBNe, Int.reduceBEq, ne_eq, not_false_eq_true, pc, ls, bs, and_true, true_and, and_self, Nat.reduceAdd, Nat.le_refl, leafP]
  refine CallT.mk (t := ⟨⟩) (long6_n [t] (by simp)) ?_
  cases hw : [t].any long20 with
  | true =>
    simp (maxSteps := 10000000) only [↓sx, sx, ↓ty, ↓reduceIte, Nat.reduceEqDiff, Nat.reduceBeqDiff, Nat.reduceAdd, Nat.reduceLeDiff, Nat.reduceLT, Nat.reduceMul, Nat.reduceSub, Int.reduceEq, Int.reduceBNe, Int.reduceBEq, ne_eq, not_false_eq_true, pc, ls, bs, and_true, true_and, and_self, Nat.reduceAdd, Nat.le_refl, leafP]
    refine CallT.mk (t := ⟨⟩) awake6_n ?_
    simp (maxSteps := 10000000) only [↓sx, sx, ↓ty, ↓reduceIte, Nat.reduceEqDiff, Nat.reduceBeqDiff, Nat.reduceAdd, Nat.reduceLeDiff, Nat.reduceLT, Nat.reduceMul, Nat.reduceSub, Int.reduceEq, Int.reduceBNe, Int.reduceBEq, ne_eq, not_false_eq_true, pc, ls, bs, and_true, true_and, and_self, Nat.reduceAdd, Nat.le_refl, leafP]
  | false =>
    have l1 := l20_no hw t (by simp)
    by_cases hk : achk [t] = 0
    · obtain ⟨hr, hu⟩ := achk_ok hk t (by simp)
      have zx : Sz 3 (ratOf t) := (Sz.text hr).mono (by omega)
      rw [← rtP_of hr]
      generalize ratOf t = x at *
      have zc := cosQ_sz zx (by omega)
      have zs := sinQ_sz zx (by omega)
      have C := acos_q x hu (zx.mono (by omega))
      have S := asin_q x hu (zx.mono (by omega))
      have CC := rop_q rmul_n (cosQ x) (cosQ x) (zc.mono (by omega)) (zc.mono (by omega))
      have SS := rop_q rmul_n (sinQ x) (sinQ x) (zs.mono (by omega)) (zs.mono (by omega))
      have A := rop_q radd_n (cosQ x * cosQ x) (sinQ x * sinQ x) ((zc.mulT zc).mono (by omega)) ((zs.mulT zs).mono (by omega))
      rw [circ, c1.1] at A
      have M := rop_q rmul_n x (-1) (zx.mono (by omega)) (cm1.2.mono (by omega))
      rw [cm1.1] at M
      have C2 := acos_q (x * (-1)) (inU_m hu) ((zx.mulT cm1.2).mono (by omega))
      have S2 := asin_q (x * (-1)) (inU_m hu) ((zx.mulT cm1.2).mono (by omega))
      rw [cos_neg] at C2
      rw [sin_neg] at S2
      have M2 := rop_q rmul_n (sinQ x) (-1) (zs.mono (by omega)) (cm1.2.mono (by omega))
      rw [cm1.1] at M2
      have P := rcmp_q (cosQ x) 0 (zc.mono (by omega)) (Sz0 _ (by omega))
      rw [c0.1] at P
      have d1 : decide ((cosQ x - 0).num.sign ≥ 0) = true := decide_eq_true ((ge_sign _ _).2 (cos_nn hu))
      generalize (cosQ x - 0).num.sign = sg at *
      generalize sinQ x * (-1) = w at *
      generalize x * (-1) = m at *
      generalize cosQ x * cosQ x = cc at *
      generalize sinQ x * sinQ x = ss at *
      generalize cosQ x = c at *
      generalize sinQ x = s at *
      simp (maxSteps := 10000000) only [↓sx, sx, ↓ty, ↓reduceIte, Nat.reduceEqDiff, Nat.reduceBeqDiff, Nat.reduceAdd, Nat.reduceLeDiff, Nat.reduceLT, Nat.reduceMul, Nat.reduceSub, Int.reduceEq, Int.reduceBNe, Int.reduceBEq, ne_eq, not_false_eq_true, pc, ls, bs, and_true, true_and, and_self, Nat.reduceAdd, Nat.le_refl, leafP]
      refine CallT.mk (t := ⟨⟩) C ?_
      simp (maxSteps := 10000000) only [↓sx, sx, ↓ty, ↓reduceIte, Nat.reduceEqDiff, Nat.reduceBeqDiff, Nat.reduceAdd, Nat.reduceLeDiff, Nat.reduceLT, Nat.reduceMul, Nat.reduceSub, Int.reduceEq, Int.reduceBNe, Int.reduceBEq, ne_eq, not_false_eq_true, pc, ls, bs, and_true, true_and, and_self, Nat.reduceAdd, Nat.le_refl, leafP]
      refine CallT.mk (t := ⟨⟩) S ?_
      simp (maxSteps := 10000000) only [↓sx, sx, ↓ty, ↓reduceIte, Nat.reduceEqDiff, Nat.reduceBeqDiff, Nat.reduceAdd, Nat.reduceLeDiff, Nat.reduceLT, Nat.reduceMul, Nat.reduceSub, Int.reduceEq, Int.reduceBNe, Int.reduceBEq, ne_eq, not_false_eq_true, pc, ls, bs, and_true, true_and, and_self, Nat.reduceAdd, Nat.le_refl, leafP]
      refine CallT.mk (t := ⟨⟩) CC ?_
      simp (maxSteps := 10000000) only [↓sx, sx, ↓ty, ↓reduceIte, Nat.reduceEqDiff, Nat.reduceBeqDiff, Nat.reduceAdd, Nat.reduceLeDiff, Nat.reduceLT, Nat.reduceMul, Nat.reduceSub, Int.reduceEq, Int.reduceBNe, Int.reduceBEq, ne_eq, not_false_eq_true, pc, ls, bs, and_true, true_and, and_self, Nat.reduceAdd, Nat.le_refl, leafP]
      refine CallT.mk (t := ⟨⟩) SS ?_
      simp (maxSteps := 10000000) only [↓sx, sx, ↓ty, ↓reduceIte, Nat.reduceEqDiff, Nat.reduceBeqDiff, Nat.reduceAdd, Nat.reduceLeDiff, Nat.reduceLT, Nat.reduceMul, Nat.reduceSub, Int.reduceEq, Int.reduceBNe, Int.reduceBEq, ne_eq, not_false_eq_true, pc, ls, bs, and_true, true_and, and_self, Nat.reduceAdd, Nat.le_refl, leafP]
      refine CallT.mk (t := ⟨⟩) A ?_
      simp (maxSteps := 10000000) only [↓sx, sx, ↓ty, ↓reduceIte, Nat.reduceEqDiff, Nat.reduceBeqDiff, Nat.reduceAdd, Nat.reduceLeDiff, Nat.reduceLT, Nat.reduceMul, Nat.reduceSub, Int.reduceEq, Int.reduceBNe, Int.reduceBEq, ne_eq, not_false_eq_true, pc, ls, bs, and_true, true_and, and_self, Nat.reduceAdd, Nat.le_refl, leafP]
      refine CallT.mk (t := ⟨⟩) M ?_
      simp (maxSteps := 10000000) only [↓sx, sx, ↓ty, ↓reduceIte, Nat.reduceEqDiff, Nat.reduceBeqDiff, Nat.reduceAdd, Nat.reduceLeDiff, Nat.reduceLT, Nat.reduceMul, Nat.reduceSub, Int.reduceEq, Int.reduceBNe, Int.reduceBEq, ne_eq, not_false_eq_true, pc, ls, bs, and_true, true_and, and_self, Nat.reduceAdd, Nat.le_refl, leafP]
      refine CallT.mk (t := ⟨⟩) C2 ?_
      simp (maxSteps := 10000000) only [↓sx, sx, ↓ty, ↓reduceIte, Nat.reduceEqDiff, Nat.reduceBeqDiff, Nat.reduceAdd, Nat.reduceLeDiff, Nat.reduceLT, Nat.reduceMul, Nat.reduceSub, Int.reduceEq, Int.reduceBNe, Int.reduceBEq, ne_eq, not_false_eq_true, pc, ls, bs, and_true, true_and, and_self, Nat.reduceAdd, Nat.le_refl, leafP]
      refine CallT.mk (t := ⟨⟩) S2 ?_
      simp (maxSteps := 10000000) only [↓sx, sx, ↓ty, ↓reduceIte, Nat.reduceEqDiff, Nat.reduceBeqDiff, Nat.reduceAdd, Nat.reduceLeDiff, Nat.reduceLT, Nat.reduceMul, Nat.reduceSub, Int.reduceEq, Int.reduceBNe, Int.reduceBEq, ne_eq, not_false_eq_true, pc, ls, bs, and_true, true_and, and_self, Nat.reduceAdd, Nat.le_refl, leafP]
      refine CallT.mk (t := ⟨⟩) M2 ?_
      simp (maxSteps := 10000000) only [↓sx, sx, ↓ty, ↓reduceIte, Nat.reduceEqDiff, Nat.reduceBeqDiff, Nat.reduceAdd, Nat.reduceLeDiff, Nat.reduceLT, Nat.reduceMul, Nat.reduceSub, Int.reduceEq, Int.reduceBNe, Int.reduceBEq, ne_eq, not_false_eq_true, pc, ls, bs, and_true, true_and, and_self, Nat.reduceAdd, Nat.le_refl, leafP]
      refine CallT.mk (t := ⟨⟩) P ?_
      simp (maxSteps := 10000000) only [↓sx, sx, ↓ty, ↓reduceIte, Nat.reduceEqDiff, Nat.reduceBeqDiff, Nat.reduceAdd, Nat.reduceLeDiff, Nat.reduceLT, Nat.reduceMul, Nat.reduceSub, Int.reduceEq, Int.reduceBNe, Int.reduceBEq, ne_eq, not_false_eq_true, pc, ls, bs, and_true, true_and, and_self, Nat.reduceAdd, Nat.le_refl, leafP, la, ag, beq_self_eq_true, ba_beq, w4, Int.reduceAdd, d1]
    · have C := acos_n t (by omega)
      have S := asin_n t (by omega)
      unfold acosP at C
      unfold asinP at S
      rw [if_neg hk] at C S
      have V := avalid_n t (by omega)
      rw [valid_chk, show (achk [t] == 0) = false by simp [hk]] at V
      have d0 : (achk [t] != 0) = true := by simp [hk]
      generalize achk [t] = e at *
      simp (maxSteps := 10000000) only [↓sx, sx, ↓ty, ↓reduceIte, Nat.reduceEqDiff, Nat.reduceBeqDiff, Nat.reduceAdd, Nat.reduceLeDiff, Nat.reduceLT, Nat.reduceMul, Nat.reduceSub, Int.reduceEq, Int.reduceBNe, Int.reduceBEq, ne_eq, not_false_eq_true, pc, ls, bs, and_true, true_and, and_self, Nat.reduceAdd, Nat.le_refl, leafP]
      refine CallT.mk (t := ⟨⟩) C ?_
      simp (maxSteps := 10000000) only [↓sx, sx, ↓ty, ↓reduceIte, Nat.reduceEqDiff, Nat.reduceBeqDiff, Nat.reduceAdd, Nat.reduceLeDiff, Nat.reduceLT, Nat.reduceMul, Nat.reduceSub, Int.reduceEq, Int.reduceBNe, Int.reduceBEq, ne_eq, not_false_eq_true, pc, ls, bs, and_true, true_and, and_self, Nat.reduceAdd, Nat.le_refl, leafP]
      refine CallT.mk (t := ⟨⟩) S ?_
      simp (maxSteps := 10000000) only [↓sx, sx, ↓ty, ↓reduceIte, Nat.reduceEqDiff, Nat.reduceBeqDiff, Nat.reduceAdd, Nat.reduceLeDiff, Nat.reduceLT, Nat.reduceMul, Nat.reduceSub, Int.reduceEq, Int.reduceBNe, Int.reduceBEq, ne_eq, not_false_eq_true, pc, ls, bs, and_true, true_and, and_self, Nat.reduceAdd, Nat.le_refl, leafP, d0, la, ag, beq_self_eq_true, ba_beq]
      refine CallT.mk (t := ⟨⟩) V ?_
      simp (maxSteps := 10000000) only [↓sx, sx, ↓ty, ↓reduceIte, Nat.reduceEqDiff, Nat.reduceBeqDiff, Nat.reduceAdd, Nat.reduceLeDiff, Nat.reduceLT, Nat.reduceMul, Nat.reduceSub, Int.reduceEq, Int.reduceBNe, Int.reduceBEq, ne_eq, not_false_eq_true, pc, ls, bs, and_true, true_and, and_self, Nat.reduceAdd, Nat.le_refl, leafP, la, ag, beq_self_eq_true, ba_beq]
theorem circle6_law (xs : List PV) (h : FitA [.str] xs) : Meets Tryz.prog Gd 8 xs (.val (.bool true)) := by
  obtain ⟨_, _, rfl, h1, h⟩ := fita_cons h
  obtain rfl := fita_nil h
  obtain ⟨a, rfl, _⟩ := fit_str h1
  exact circle6_n a
set_option maxRecDepth 100000 in
set_option maxHeartbeats 16000000 in
theorem adds6_n (s t : List UInt8) : Meets Tryz.prog Gd 9 [strP s, strP t] (.val (.bool true)) := by
  refine meets_of_vc (Y := {}) (N := 192) (rs := [.tmp 4]) mix tk gd Tryz.func9 rfl (by kernel_rfl) rfl rfl (by simp) (by kernel_rfl) ?_
  simp (maxSteps := 10000000) only [↓sx, sx, ↓ty, ↓reduceIte, Nat.reduceEqDiff, Nat.reduceBeqDiff, Nat.reduceAdd, Nat.reduceLeDiff, Nat.reduceLT, Nat.reduceMul, Nat.reduceSub, Int.reduceEq, Int.reduceBNe, Int.reduceBEq, ne_eq, not_false_eq_true, pc, ls, bs, and_true, true_and, and_self, Nat.reduceAdd, Nat.le_refl, leafP]
  refine CallT.mk (t := ⟨⟩) awake6_n ?_
  simp (maxSteps := 10000000) only [↓sx, sx, ↓ty, ↓reduceIte, Nat.reduceEqDiff, Nat.reduceBeqDiff, Nat.reduceAdd, Nat.reduceLeDiff, Nat.reduceLT, Nat.reduceMul, Nat.reduceSub, Int.reduceEq, Int.reduceBNe, Int.reduceBEq, ne_eq, not_false_eq_true, pc, ls, bs, and_true, true_and, and_self, Nat.reduceAdd, Nat.le_refl, leafP]
  refine CallT.mk (t := ⟨⟩) (long6_n [s, t] (by simp)) ?_
  cases hw : [s, t].any long20 with
  | true =>
    simp (maxSteps := 10000000) only [↓sx, sx, ↓ty, ↓reduceIte, Nat.reduceEqDiff, Nat.reduceBeqDiff, Nat.reduceAdd, Nat.reduceLeDiff, Nat.reduceLT, Nat.reduceMul, Nat.reduceSub, Int.reduceEq, Int.reduceBNe, Int.reduceBEq, ne_eq, not_false_eq_true, pc, ls, bs, and_true, true_and, and_self, Nat.reduceAdd, Nat.le_refl, leafP]
    refine CallT.mk (t := ⟨⟩) awake6_n ?_
    simp (maxSteps := 10000000) only [↓sx, sx, ↓ty, ↓reduceIte, Nat.reduceEqDiff, Nat.reduceBeqDiff, Nat.reduceAdd, Nat.reduceLeDiff, Nat.reduceLT, Nat.reduceMul, Nat.reduceSub, Int.reduceEq, Int.reduceBNe, Int.reduceBEq, ne_eq, not_false_eq_true, pc, ls, bs, and_true, true_and, and_self, Nat.reduceAdd, Nat.le_refl, leafP]
  | false =>
    have l1 := l20_no hw s (by simp)
    have l2 := l20_no hw t (by simp)
    have A1 := asum_n s t (by omega) (by omega)
    have A2 := asum_n t s (by omega) (by omega)
    rw [asumP_comm t s] at A2
    by_cases hk : ∃ e : Int, e ≠ 0 ∧ asumP s t = .tup [strP [], iP e]
    · obtain ⟨e, he, hs⟩ := hk
      rw [hs] at A1 A2
      have d0 : (e != 0) = true := by simp [he]
      simp (maxSteps := 10000000) only [↓sx, sx, ↓ty, ↓reduceIte, Nat.reduceEqDiff, Nat.reduceBeqDiff, Nat.reduceAdd, Nat.reduceLeDiff, Nat.reduceLT, Nat.reduceMul, Nat.reduceSub, Int.reduceEq, Int.reduceBNe, Int.reduceBEq, ne_eq, not_false_eq_true, pc, ls, bs, and_true, true_and, and_self, Nat.reduceAdd, Nat.le_refl, leafP]
      refine CallT.mk (t := ⟨⟩) A1 ?_
      simp (maxSteps := 10000000) only [↓sx, sx, ↓ty, ↓reduceIte, Nat.reduceEqDiff, Nat.reduceBeqDiff, Nat.reduceAdd, Nat.reduceLeDiff, Nat.reduceLT, Nat.reduceMul, Nat.reduceSub, Int.reduceEq, Int.reduceBNe, Int.reduceBEq, ne_eq, not_false_eq_true, pc, ls, bs, and_true, true_and, and_self, Nat.reduceAdd, Nat.le_refl, leafP]
      refine CallT.mk (t := ⟨⟩) A2 ?_
      simp (maxSteps := 10000000) only [↓sx, sx, ↓ty, ↓reduceIte, Nat.reduceEqDiff, Nat.reduceBeqDiff, Nat.reduceAdd, Nat.reduceLeDiff, Nat.reduceLT, Nat.reduceMul, Nat.reduceSub, Int.reduceEq, Int.reduceBNe, Int.reduceBEq, ne_eq, not_false_eq_true, pc, ls, bs, and_true, true_and, and_self, Nat.reduceAdd, Nat.le_refl, leafP, la, ag, beq_self_eq_true, ba_beq, bne_self_eq_false, d0]
    · have hc : achk [s, t] = 0 := Classical.byContradiction fun h => hk ⟨_, h, by unfold asumP; rw [if_neg h]⟩
      obtain ⟨hr1, hu1⟩ := achk_ok hc s (by simp)
      obtain ⟨hr2, hu2⟩ := achk_ok hc t (by simp)
      have zx : Sz 3 (ratOf s) := (Sz.text hr1).mono (by omega)
      have zy : Sz 3 (ratOf t) := (Sz.text hr2).mono (by omega)
      have hd : 1 - ratOf s * ratOf t ≠ 0 := fun h => hk ⟨15, by decide, by unfold asumP; rw [if_pos hc, if_pos h]⟩
      have hz : inU ((ratOf s + ratOf t) / (1 - ratOf s * ratOf t)) = true := by
        cases h : inU ((ratOf s + ratOf t) / (1 - ratOf s * ratOf t)) with
        | true => rfl
        | false => exact (hk ⟨15, by decide, by unfold asumP; rw [if_pos hc, if_neg hd, h]; rfl⟩).elim
      have hs : asumP s t = .tup [rtP ((ratOf s + ratOf t) / (1 - ratOf s * ratOf t)), iP 0] := by unfold asumP; rw [if_pos hc, if_neg hd, if_pos hz]
      rw [hs] at A1 A2
      clear hk hs hc
      rw [← rtP_of hr1, ← rtP_of hr2] at A1 A2 ⊢
      generalize ratOf s = x at *
      generalize ratOf t = y at *
      have zu : Sz 15 ((x + y) / (1 - x * y)) := ((zx.addT zy).divT (c1.2.subT (zx.mulT zy)) (by omega)).mono (by omega)
      have hm : (x + y) / (1 - x * y) * (1 - x * y) = x + y := by generalize 1 - x * y = d at *; grind
      generalize (x + y) / (1 - x * y) = u at *
      have B := asum_n (rT u) (rT (y * (-1))) (by have := rT_len zu; omega) (by have := rT_len (zy.mulT cm1.2); omega)
      rw [asumP_q hz (inU_m hu2) (back_ne hd hm) (back_eq hd hm) hu1] at B
      have W := asum_n (rT x) [48] (by have := rT_len zx; omega) (by simp)
      rw [show ([48] : List UInt8) = rT 0 from rT_0.symm, asumP_q (z := x) hu1 (by decide +kernel) (by grind) (by rw [show 1 - x * 0 = 1 by grind]; grind) hu1, rT_0] at W
      have cx := acos_q x hu1 (zx.mono (by omega))
      have sx' := asin_q x hu1 (zx.mono (by omega))
      have cy := acos_q y hu2 (zy.mono (by omega))
      have sy := asin_q y hu2 (zy.mono (by omega))
      have cu := acos_q u hz (zu.mono (by omega))
      have su := asin_q u hz (zu.mono (by omega))
      rw [cos_add hm] at cu
      rw [sin_add hm] at su
      have M := rop_q rmul_n y (-1) (zy.mono (by omega)) (cm1.2.mono (by omega))
      rw [cm1.1] at M
      have z1 := cosQ_sz zx (by omega)
      have z2 := sinQ_sz zx (by omega)
      have z3 := cosQ_sz zy (by omega)
      have z4 := sinQ_sz zy (by omega)
      have P1 := rop_q rmul_n (cosQ x) (cosQ y) (z1.mono (by omega)) (z3.mono (by omega))
      have P2 := rop_q rmul_n (sinQ x) (sinQ y) (z2.mono (by omega)) (z4.mono (by omega))
      have P3 := rop_q rmul_n (sinQ x) (cosQ y) (z2.mono (by omega)) (z3.mono (by omega))
      have P4 := rop_q rmul_n (cosQ x) (sinQ y) (z1.mono (by omega)) (z4.mono (by omega))
      have P5 := rop_q rsub_n (cosQ x * cosQ y) (sinQ x * sinQ y) ((z1.mulT z3).mono (by omega)) ((z2.mulT z4).mono (by omega))
      have P6 := rop_q radd_n (cosQ x * sinQ y) (sinQ x * cosQ y) ((z1.mulT z4).mono (by omega)) ((z2.mulT z3).mono (by omega))
      generalize cosQ x * cosQ y - sinQ x * sinQ y = k5 at *
      generalize cosQ x * sinQ y + sinQ x * cosQ y = k6 at *
      generalize cosQ x * cosQ y = k1 at *
      generalize sinQ x * sinQ y = k2 at *
      generalize sinQ x * cosQ y = k3 at *
      generalize cosQ x * sinQ y = k4 at *
      generalize y * (-1) = m at *
      generalize cosQ x = c1 at *
      generalize sinQ x = c2 at *
      generalize cosQ y = c3 at *
      generalize sinQ y = c4 at *
      simp (maxSteps := 10000000) only [↓sx, sx, ↓ty, ↓reduceIte, Nat.reduceEqDiff, Nat.reduceBeqDiff, Nat.reduceAdd, Nat.reduceLeDiff, Nat.reduceLT, Nat.reduceMul, Nat.reduceSub, Int.reduceEq, Int.reduceBNe, Int.reduceBEq, ne_eq, not_false_eq_true, pc, ls, bs, and_true, true_and, and_self, Nat.reduceAdd, Nat.le_refl, leafP]
      refine CallT.mk (t := ⟨⟩) A1 ?_
      simp (maxSteps := 10000000) only [↓sx, sx, ↓ty, ↓reduceIte, Nat.reduceEqDiff, Nat.reduceBeqDiff, Nat.reduceAdd, Nat.reduceLeDiff, Nat.reduceLT, Nat.reduceMul, Nat.reduceSub, Int.reduceEq, Int.reduceBNe, Int.reduceBEq, ne_eq, not_false_eq_true, pc, ls, bs, and_true, true_and, and_self, Nat.reduceAdd, Nat.le_refl, leafP]
      refine CallT.mk (t := ⟨⟩) A2 ?_
      simp (maxSteps := 10000000) only [↓sx, sx, ↓ty, ↓reduceIte, Nat.reduceEqDiff, Nat.reduceBeqDiff, Nat.reduceAdd, Nat.reduceLeDiff, Nat.reduceLT, Nat.reduceMul, Nat.reduceSub, Int.reduceEq, Int.reduceBNe, Int.reduceBEq, ne_eq, not_false_eq_true, pc, ls, bs, and_true, true_and, and_self, Nat.reduceAdd, Nat.le_refl, leafP, la, ag, beq_self_eq_true, ba_beq, bne_self_eq_false]
      refine CallT.mk (t := ⟨⟩) cx ?_
      simp (maxSteps := 10000000) only [↓sx, sx, ↓ty, ↓reduceIte, Nat.reduceEqDiff, Nat.reduceBeqDiff, Nat.reduceAdd, Nat.reduceLeDiff, Nat.reduceLT, Nat.reduceMul, Nat.reduceSub, Int.reduceEq, Int.reduceBNe, Int.reduceBEq, ne_eq, not_false_eq_true, pc, ls, bs, and_true, true_and, and_self, Nat.reduceAdd, Nat.le_refl, leafP]
      refine CallT.mk (t := ⟨⟩) sx' ?_
      simp (maxSteps := 10000000) only [↓sx, sx, ↓ty, ↓reduceIte, Nat.reduceEqDiff, Nat.reduceBeqDiff, Nat.reduceAdd, Nat.reduceLeDiff, Nat.reduceLT, Nat.reduceMul, Nat.reduceSub, Int.reduceEq, Int.reduceBNe, Int.reduceBEq, ne_eq, not_false_eq_true, pc, ls, bs, and_true, true_and, and_self, Nat.reduceAdd, Nat.le_refl, leafP]
      refine CallT.mk (t := ⟨⟩) cy ?_
      simp (maxSteps := 10000000) only [↓sx, sx, ↓ty, ↓reduceIte, Nat.reduceEqDiff, Nat.reduceBeqDiff, Nat.reduceAdd, Nat.reduceLeDiff, Nat.reduceLT, Nat.reduceMul, Nat.reduceSub, Int.reduceEq, Int.reduceBNe, Int.reduceBEq, ne_eq, not_false_eq_true, pc, ls, bs, and_true, true_and, and_self, Nat.reduceAdd, Nat.le_refl, leafP]
      refine CallT.mk (t := ⟨⟩) sy ?_
      simp (maxSteps := 10000000) only [↓sx, sx, ↓ty, ↓reduceIte, Nat.reduceEqDiff, Nat.reduceBeqDiff, Nat.reduceAdd, Nat.reduceLeDiff, Nat.reduceLT, Nat.reduceMul, Nat.reduceSub, Int.reduceEq, Int.reduceBNe, Int.reduceBEq, ne_eq, not_false_eq_true, pc, ls, bs, and_true, true_and, and_self, Nat.reduceAdd, Nat.le_refl, leafP]
      refine CallT.mk (t := ⟨⟩) cu ?_
      simp (maxSteps := 10000000) only [↓sx, sx, ↓ty, ↓reduceIte, Nat.reduceEqDiff, Nat.reduceBeqDiff, Nat.reduceAdd, Nat.reduceLeDiff, Nat.reduceLT, Nat.reduceMul, Nat.reduceSub, Int.reduceEq, Int.reduceBNe, Int.reduceBEq, ne_eq, not_false_eq_true, pc, ls, bs, and_true, true_and, and_self, Nat.reduceAdd, Nat.le_refl, leafP]
      refine CallT.mk (t := ⟨⟩) su ?_
      simp (maxSteps := 10000000) only [↓sx, sx, ↓ty, ↓reduceIte, Nat.reduceEqDiff, Nat.reduceBeqDiff, Nat.reduceAdd, Nat.reduceLeDiff, Nat.reduceLT, Nat.reduceMul, Nat.reduceSub, Int.reduceEq, Int.reduceBNe, Int.reduceBEq, ne_eq, not_false_eq_true, pc, ls, bs, and_true, true_and, and_self, Nat.reduceAdd, Nat.le_refl, leafP]
      refine CallT.mk (t := ⟨⟩) M ?_
      simp (maxSteps := 10000000) only [↓sx, sx, ↓ty, ↓reduceIte, Nat.reduceEqDiff, Nat.reduceBeqDiff, Nat.reduceAdd, Nat.reduceLeDiff, Nat.reduceLT, Nat.reduceMul, Nat.reduceSub, Int.reduceEq, Int.reduceBNe, Int.reduceBEq, ne_eq, not_false_eq_true, pc, ls, bs, and_true, true_and, and_self, Nat.reduceAdd, Nat.le_refl, leafP]
      refine CallT.mk (t := ⟨⟩) B ?_
      simp (maxSteps := 10000000) only [↓sx, sx, ↓ty, ↓reduceIte, Nat.reduceEqDiff, Nat.reduceBeqDiff, Nat.reduceAdd, Nat.reduceLeDiff, Nat.reduceLT, Nat.reduceMul, Nat.reduceSub, Int.reduceEq, Int.reduceBNe, Int.reduceBEq, ne_eq, not_false_eq_true, pc, ls, bs, and_true, true_and, and_self, Nat.reduceAdd, Nat.le_refl, leafP]
      refine CallT.mk (t := ⟨⟩) W ?_
      simp (maxSteps := 10000000) only [↓sx, sx, ↓ty, ↓reduceIte, Nat.reduceEqDiff, Nat.reduceBeqDiff, Nat.reduceAdd, Nat.reduceLeDiff, Nat.reduceLT, Nat.reduceMul, Nat.reduceSub, Int.reduceEq, Int.reduceBNe, Int.reduceBEq, ne_eq, not_false_eq_true, pc, ls, bs, and_true, true_and, and_self, Nat.reduceAdd, Nat.le_refl, leafP]
      refine CallT.mk (t := ⟨⟩) P1 ?_
      simp (maxSteps := 10000000) only [↓sx, sx, ↓ty, ↓reduceIte, Nat.reduceEqDiff, Nat.reduceBeqDiff, Nat.reduceAdd, Nat.reduceLeDiff, Nat.reduceLT, Nat.reduceMul, Nat.reduceSub, Int.reduceEq, Int.reduceBNe, Int.reduceBEq, ne_eq, not_false_eq_true, pc, ls, bs, and_true, true_and, and_self, Nat.reduceAdd, Nat.le_refl, leafP]
      refine CallT.mk (t := ⟨⟩) P2 ?_
      simp (maxSteps := 10000000) only [↓sx, sx, ↓ty, ↓reduceIte, Nat.reduceEqDiff, Nat.reduceBeqDiff, Nat.reduceAdd, Nat.reduceLeDiff, Nat.reduceLT, Nat.reduceMul, Nat.reduceSub, Int.reduceEq, Int.reduceBNe, Int.reduceBEq, ne_eq, not_false_eq_true, pc, ls, bs, and_true, true_and, and_self, Nat.reduceAdd, Nat.le_refl, leafP]
      refine CallT.mk (t := ⟨⟩) P4 ?_
      simp (maxSteps := 10000000) only [↓sx, sx, ↓ty, ↓reduceIte, Nat.reduceEqDiff, Nat.reduceBeqDiff, Nat.reduceAdd, Nat.reduceLeDiff, Nat.reduceLT, Nat.reduceMul, Nat.reduceSub, Int.reduceEq, Int.reduceBNe, Int.reduceBEq, ne_eq, not_false_eq_true, pc, ls, bs, and_true, true_and, and_self, Nat.reduceAdd, Nat.le_refl, leafP]
      refine CallT.mk (t := ⟨⟩) P3 ?_
      simp (maxSteps := 10000000) only [↓sx, sx, ↓ty, ↓reduceIte, Nat.reduceEqDiff, Nat.reduceBeqDiff, Nat.reduceAdd, Nat.reduceLeDiff, Nat.reduceLT, Nat.reduceMul, Nat.reduceSub, Int.reduceEq, Int.reduceBNe, Int.reduceBEq, ne_eq, not_false_eq_true, pc, ls, bs, and_true, true_and, and_self, Nat.reduceAdd, Nat.le_refl, leafP]
      refine CallT.mk (t := ⟨⟩) P5 ?_
      simp (maxSteps := 10000000) only [↓sx, sx, ↓ty, ↓reduceIte, Nat.reduceEqDiff, Nat.reduceBeqDiff, Nat.reduceAdd, Nat.reduceLeDiff, Nat.reduceLT, Nat.reduceMul, Nat.reduceSub, Int.reduceEq, Int.reduceBNe, Int.reduceBEq, ne_eq, not_false_eq_true, pc, ls, bs, and_true, true_and, and_self, Nat.reduceAdd, Nat.le_refl, leafP]
      refine CallT.mk (t := ⟨⟩) P6 ?_
      simp (maxSteps := 10000000) only [↓sx, sx, ↓ty, ↓reduceIte, Nat.reduceEqDiff, Nat.reduceBeqDiff, Nat.reduceAdd, Nat.reduceLeDiff, Nat.reduceLT, Nat.reduceMul, Nat.reduceSub, Int.reduceEq, Int.reduceBNe, Int.reduceBEq, ne_eq, not_false_eq_true, pc, ls, bs, and_true, true_and, and_self, Nat.reduceAdd, Nat.le_refl, leafP, la, ag, beq_self_eq_true, ba_beq, w4, Int.reduceAdd]
theorem adds6_law (xs : List PV) (h : FitA [.str, .str] xs) : Meets Tryz.prog Gd 9 xs (.val (.bool true)) := by
  obtain ⟨_, _, rfl, h1, h⟩ := fita_cons h
  obtain ⟨_, _, rfl, h2, h⟩ := fita_cons h
  obtain rfl := fita_nil h
  obtain ⟨a, rfl, _⟩ := fit_str h1
  obtain ⟨b, rfl, _⟩ := fit_str h2
  exact adds6_n a b
end Go.Proofs.YtolehnkoocnenaaGreatDoor.S
