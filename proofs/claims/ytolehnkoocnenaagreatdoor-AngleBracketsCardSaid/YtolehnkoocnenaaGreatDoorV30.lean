/- A part of a proof; the last text of this claim says of what. -/
import Derived.Test.YtolehnkoocnenaaGreatDoorV29
import Derived.ChangeSame
import Derived.OpenShut
import Derived.Carry
import Derived.ChangeOld
import Derived.ProofKit
import Derived.WalkSpells
import Derived.Laws.AppendOwn
set_option linter.unusedVariables false
set_option linter.unusedSimpArgs false
set_option linter.unusedSectionVars false
namespace Gb
open Go Go.RowKit Go.Sx
end Gb
namespace Go.Proofs.YtolehnkoocnenaaGreatDoor.S
open Go Go.Sx Go.RowKit Gb Go.Shelf
end Go.Proofs.YtolehnkoocnenaaGreatDoor.S
namespace Gb
open Go Go.RowKit Go.Sx
end Gb
namespace Go.Proofs.YtolehnkoocnenaaGreatDoor.S
open Go Go.Sx Go.RowKit Gb Go.Shelf
end Go.Proofs.YtolehnkoocnenaaGreatDoor.S
namespace Gb
open Go Go.RowKit Go.Sx
end Gb
namespace Go.Proofs.YtolehnkoocnenaaGreatDoor.S
open Go Go.Sx Go.RowKit Gb Go.Shelf
end Go.Proofs.YtolehnkoocnenaaGreatDoor.S
namespace Gb
open Go Go.RowKit Go.Sx
end Gb
namespace Go.Proofs.YtolehnkoocnenaaGreatDoor.S
open Go Go.Sx Go.RowKit Gb Go.Shelf
end Go.Proofs.YtolehnkoocnenaaGreatDoor.S
namespace Gb
open Go Go.RowKit Go.Sx
end Gb
namespace Go.Proofs.YtolehnkoocnenaaGreatDoor.S
open Go Go.Sx Go.RowKit Gb Go.Shelf
end Go.Proofs.YtolehnkoocnenaaGreatDoor.S
namespace Gb
open Go Go.RowKit Go.Sx
end Gb
namespace Go.Proofs.YtolehnkoocnenaaGreatDoor.S
open Go Go.Sx Go.RowKit Gb Go.Shelf
end Go.Proofs.YtolehnkoocnenaaGreatDoor.S
namespace Gb
open Go Go.RowKit Go.Sx
end Gb
namespace Go.Proofs.YtolehnkoocnenaaGreatDoor.S
open Go Go.Sx Go.RowKit Gb Go.Shelf
end Go.Proofs.YtolehnkoocnenaaGreatDoor.S
namespace Gb
open Go Go.RowKit Go.Sx
end Gb
namespace Go.Proofs.YtolehnkoocnenaaGreatDoor.S
open Go Go.Sx Go.RowKit Gb Go.Shelf
end Go.Proofs.YtolehnkoocnenaaGreatDoor.S
namespace Gb
open Go Go.RowKit Go.Sx
end Gb
namespace Go.Proofs.YtolehnkoocnenaaGreatDoor.S
open Go Go.Sx Go.RowKit Gb Go.Shelf
end Go.Proofs.YtolehnkoocnenaaGreatDoor.S
namespace Go.Sx
open Go Go.RowKit Go.ChangeShapes Go.WideShapes Go.Shelf Go.Proofs
inductive Sh where
  | str
  | bool
  | int (k : IntKind)
  | agg (l : List Sh)
  | sl (e : Sh)
mutual
def shB (P : Program) : TypeId → Sh → Bool
  | t, .str => match P.underlying t with | some .string => true | _ => false
  | t, .bool => match P.underlying t with | some .bool => true | _ => false
  | t, .int k => match P.underlying t with | some (.int k') => decide (k' = k) | _ => false
  | t, .agg l => match P.underlying t with | some (.struct fs) => shsB P 0 (P.cellsOf t) (fs.toList.map fun f => (f.offset, f.type)) l | _ => false
  | t, .sl e => match P.underlying t with | some (.slice te) => decide (0 < P.cellsOf te) && shB P te e | _ => false
def shsB (P : Program) : Nat → Nat → List (Nat × TypeId) → List Sh → Bool
  | o, n, [], [] => decide (o = n)
  | o, n, f :: fs, s :: l => decide (f.1 = o) && shB P f.2 s && shsB P (o + P.cellsOf f.2) n fs l
  | _, _, _, _ => false
end
mutual
def Fit : Sh → List PV → Prop
  | .str, cs => ∃ s : ByteArray, cs = [.val (.string s)] ∧ s.size ≤ maxLen
  | .bool, cs => ∃ b, cs = [.val (.bool b)]
  | .int k, cs => ∃ n, cs = [.val (.int k n)] ∧ (Lit.int k n).wf = true
  | .agg l, cs => Fits l cs
  | .sl e, cs => ∃ ls : List (List PV), cs = [.sl ls.length ls.flatten] ∧ ls.length ≤ maxLen ∧ ∀ x ∈ ls, Fit e x
def Fits : List Sh → List PV → Prop
  | [], cs => cs = []
  | s :: l, cs => ∃ a b, cs = a ++ b ∧ Fit s a ∧ Fits l b
end
def Fit1 : Sh → PV → Prop
  | .agg l, x => ∃ cs, x = .agg cs ∧ Fits l cs
  | s, x => Fit s [x]
def FitA : List Sh → List PV → Prop
  | [], xs => xs = []
  | s :: l, xs => ∃ y ys, xs = y :: ys ∧ Fit1 s y ∧ FitA l ys
section
variable {H : Type} {enc : TypeId × Value → H} {P : Program} {W : World} {sp : Nat → Bool} {held : Bool}
theorem cell_lt {a : Addr} {v : Value} (h : W.cell? a = some v) : a.block < W.heap.size ∧ a.spot = none := by
  unfold World.cell? at h
  split at h
  · rename_i c _ _ hc
    refine ⟨(Array.getElem?_eq_some_iff.1 hc).1, ?_⟩
    split at h
    · cases h
    · rename_i hs
      cases hq : a.spot with
      | none => rfl
      | some x => rw [hq] at hs; simp at hs
  · cases h
theorem RepL.one {B : Nat → Prop} {x : PV} {v : Value} (h : RepP B W x v) : RepL B W [x] [v] := by
  simp only [RepL]
  exact ⟨v, [], rfl, h, rfl⟩
theorem addr_add (a : Addr) (i j : Nat) : (a.add i).add j = a.add (i + j) := by
  by_cases h1 : i = 0
  · subst h1; simp [Addr.add]
  · by_cases h2 : j = 0
    · subst h2; simp [Addr.add]
    · simp [Addr.add, h1, h2, show ¬ i + j = 0 by omega, Nat.add_assoc]
theorem rows_open {te : TypeId} {n : Nat} {a : Addr} {len : Nat} {elems : List (DataW H × List MemPlace)} (R : List PV → Prop) (hlen : elems.length = len)
    (hel : ∀ i, i < len → (W.cells? 0 (a.add (i * P.cellsOf te)) (P.cellsOf te)).bind (DataW.trod enc P W 0 sp held n te) = elems[i]?)
    (ho : ∀ cs x, DataW.trod enc P W 0 sp held n te cs = some x → ∃ pcs, RepL (· < W.heap.size) W pcs cs ∧ R pcs) :
    ∀ m, m ≤ len → ∃ (ls : List (List PV)) (vs : List Value), ls.length = m ∧ vs.length = m * P.cellsOf te ∧ RepL (· < W.heap.size) W ls.flatten vs ∧ (∀ j v, vs[j]? = some v → W.cell? (a.add j) = some v) ∧ ∀ x ∈ ls, R x
  | 0, _ => ⟨[], [], rfl, by simp, by simp [RepL], by simp, by simp⟩
  | m + 1, hm => by
    obtain ⟨ls, vs, h1, h2, h3, h4, h5⟩ := rows_open R hlen hel ho m (by omega)
    have hi := hel m (by omega)
    rw [List.getElem?_eq_getElem (show m < elems.length by omega)] at hi
    obtain ⟨cs, hcs, ht⟩ := Option.bind_eq_some_iff.1 hi
    obtain ⟨_, hcl, hcc⟩ := World.cells?_some hcs
    obtain ⟨pcs, hr, hR⟩ := ho cs _ ht
    refine ⟨ls ++ [pcs], vs ++ cs, by simp [h1], by rw [List.length_append, h2, hcl, Nat.succ_mul], ?_, ?_, ?_⟩
    · rw [List.flatten_append]
      exact RepL.append h3 (by simpa using hr)
    · intro j v hj
      by_cases hjl : j < vs.length
      · rw [List.getElem?_append_left hjl] at hj
        exact h4 j v hj
      · rw [List.getElem?_append_right (by omega)] at hj
        have hjc : j - vs.length < cs.length := (List.getElem?_eq_some_iff.1 hj).1
        have := hcc (j - vs.length) (by omega)
        rw [← hj, ← this]
        congr 1
        rw [addr_add, h2, show m * P.cellsOf te + (j - m * P.cellsOf te) = j by rw [h2] at hjl; omega]
    · intro x hx
      rcases List.mem_append.1 hx with hx | hx
      · exact h5 x hx
      · rw [List.mem_singleton] at hx
        rw [hx]; exact hR
mutual
theorem openS : ∀ (s : Sh) (t : TypeId) (fuel : Nat) (cs : List Value) (x : DataW H × List MemPlace), shB P t s = true → DataW.trod enc P W 0 sp held fuel t cs = some x → ∃ pcs, RepL (· < W.heap.size) W pcs cs ∧ Fit s pcs
  | .str, t, fuel, cs, x, hs, h => by
    unfold shB at hs
    split at hs
    · rename_i hu
      obtain ⟨s, rfl, rfl, hm⟩ := DataW.trod_string hu h
      exact ⟨[.val (.string s)], RepL.one (by simp [RepP]), by simp only [Fit]; exact ⟨s, rfl, hm⟩⟩
    · cases hs
  | .bool, t, fuel, cs, x, hs, h => by
    unfold shB at hs
    split at hs
    · rename_i hu
      obtain ⟨b, rfl, rfl⟩ := DataW.trod_bool hu h
      exact ⟨[.val (.bool b)], RepL.one (by simp [RepP]), by simp only [Fit]; exact ⟨b, rfl⟩⟩
    · cases hs
  | .int k, t, fuel, cs, x, hs, h => by
    unfold shB at hs
    split at hs
    · rename_i k' hu
      obtain rfl := of_decide_eq_true hs
      obtain ⟨n, rfl, rfl, hw⟩ := DataW.trod_int hu h
      exact ⟨[.val (.int k' n)], RepL.one (by simp [RepP]), by simp only [Fit]; exact ⟨n, rfl, hw⟩⟩
    · cases hs
  | .agg l, t, fuel, cs, x, hs, h => by
    unfold shB at hs
    split at hs
    · rename_i fs hu
      obtain ⟨xs, n, _, _, hl, hlen, hf⟩ := DataW.trod_struct hu h
      have := openSs l (fs.toList.map fun f => (f.offset, f.type)) 0 (P.cellsOf t) n cs hs hl fun i f hi => by
        rw [List.getElem?_map, Option.map_eq_some_iff] at hi
        obtain ⟨g, hg, rfl⟩ := hi
        rw [Array.getElem?_toList] at hg
        have h2 := hf i g hg
        have hi : i < fs.size := (Array.getElem?_eq_some_iff.1 hg).1
        rw [List.getElem?_eq_getElem (by omega)] at h2
        exact ⟨_, h2⟩
      simpa only [Fit, List.drop_zero] using this
    · cases hs
  | .sl e, t, fuel, cs, x, hs, h => by
    unfold shB at hs
    split at hs
    · rename_i te hu
      rw [Bool.and_eq_true, decide_eq_true_eq] at hs
      simp only [Fit]
      rcases DataW.trod_slice hu h with ⟨rfl, _⟩ | ⟨a, len, cap, elems, rest, n, _, rfl, _, _, hl, hm, hlen, hel, _⟩
      · refine ⟨[.sl 0 []], RepL.one ?_, [], rfl, by simp, by simp⟩
        simp only [RepP]
        exact ⟨none, 0, rfl, Nat.le_refl _, .inl rfl, .inl trivial⟩
      · obtain ⟨ls, vs, h1, h2, h3, h4, h5⟩ := rows_open (Fit e) hlen hel (fun cs x ht => openS e te n cs x hs.2 ht) len (Nat.le_refl _)
        refine ⟨[.sl ls.length ls.flatten], RepL.one ?_, ls, rfl, by omega, h5⟩
        simp only [RepP]
        refine ⟨some a, cap, by rw [h1], by omega, .inr (by simp), ?_⟩
        cases vs with
        | nil =>
          left
          have := h3.length
          exact List.eq_nil_of_length_eq_zero this.symm
        | cons v vs =>
          right
          have h0 := h4 0 v rfl
          obtain ⟨q1, q2⟩ := cell_lt h0
          obtain ⟨b, o, sp⟩ := a
          simp only [Addr.add] at q1 q2
          subst q2
          refine ⟨b, o, rfl, q1, RepC.of_vals h3 fun j v hj => ?_⟩
          have := h4 j v hj
          have e : (⟨b, o, none⟩ : Addr).add j = ⟨b, o + j, none⟩ := by
            unfold Addr.add
            split
            · subst_vars; rfl
            · rfl
          rwa [e] at this
    · cases hs
theorem openSs : ∀ (l : List Sh) (fs : List (Nat × TypeId)) (o n fuel : Nat) (cs : List Value), shsB P o n fs l = true → cs.length = n → (∀ (i : Nat) f, fs[i]? = some f → ∃ y, DataW.trod enc P W 0 sp held fuel f.2 ((cs.drop f.1).take (P.cellsOf f.2)) = some y) →
    ∃ pcs, RepL (· < W.heap.size) W pcs (cs.drop o) ∧ Fits l pcs
  | [], [], o, n, fuel, cs, hs, hn, _ => by
    simp only [shsB, decide_eq_true_eq] at hs
    refine ⟨[], ?_, by simp [Fits]⟩
    rw [List.drop_eq_nil_of_le (by omega)]
    simp [RepL]
  | s :: l, f :: fs, o, n, fuel, cs, hs, hn, hf => by
    simp only [shsB, Bool.and_eq_true, decide_eq_true_eq] at hs
    obtain ⟨⟨rfl, h2⟩, h3⟩ := hs
    obtain ⟨y, hy⟩ := hf 0 f rfl
    obtain ⟨p1, r1, f1⟩ := openS s f.2 fuel _ y h2 hy
    obtain ⟨p2, r2, f2⟩ := openSs l fs (f.1 + P.cellsOf f.2) n fuel cs h3 hn fun i g hg => hf (i + 1) g (by simpa using hg)
    refine ⟨p1 ++ p2, ?_, by simp only [Fits]; exact ⟨p1, p2, rfl, f1, f2⟩⟩
    have := RepL.append r1 r2
    rwa [← List.drop_drop, List.take_append_drop] at this
  | [], _ :: _, o, n, fuel, cs, hs, _, _ => by simp [shsB] at hs
  | _ :: _, [], o, n, fuel, cs, hs, _, _ => by simp [shsB] at hs
end
theorem openV {base : Nat} (s : Sh) (t : TypeId) (v : Value) (d : DataW H) (ps : List MemPlace) (hs : shB P t s = true) (hok : Value.okWide P W .any base t v) (h : DataW.Trod enc P W 0 sp held t v d ps) :
    ∃ x, RepP (· < W.heap.size) W x v ∧ Fit1 s x := by
  obtain ⟨fuel, hv⟩ := h
  obtain ⟨pcs, hr, hf⟩ := openS s t fuel _ _ hs hv
  cases s with
  | agg l =>
    unfold shB at hs
    split at hs
    · rename_i fs hu
      simp only [Value.okWide, hu] at hok
      obtain ⟨cs, rfl, _, _⟩ := hok
      refine ⟨.agg pcs, ?_, pcs, rfl, by simpa only [Fit] using hf⟩
      simp only [RepP]
      exact ⟨cs.toList, rfl, hr⟩
    · cases hs
  | str =>
    simp only [Fit] at hf
    obtain ⟨s, rfl, hm⟩ := hf
    unfold shB at hs
    split at hs
    · rename_i hu
      simp only [RepL, RepP] at hr
      obtain ⟨y, ys, hc, rfl, rfl⟩ := hr
      have : v = .string s := by
        cases v <;> simp [Value.cells, Value.okWide, hu, Cell.okWide, Cell.ok] at hc hok ⊢
        exact hc
      subst this
      exact ⟨.val (.string s), by simp [RepP], by simp only [Fit1, Fit]; exact ⟨s, rfl, hm⟩⟩
    · cases hs
  | bool =>
    simp only [Fit] at hf
    obtain ⟨s, rfl⟩ := hf
    unfold shB at hs
    split at hs
    · rename_i hu
      simp only [RepL, RepP] at hr
      obtain ⟨y, ys, hc, rfl, rfl⟩ := hr
      have : v = .bool s := by
        cases v <;> simp [Value.cells, Value.okWide, hu, Cell.okWide, Cell.ok] at hc hok ⊢
        exact hc
      subst this
      exact ⟨.val (.bool s), by simp [RepP], by simp only [Fit1, Fit]; exact ⟨s, rfl⟩⟩
    · cases hs
  | int k =>
    simp only [Fit] at hf
    obtain ⟨s, rfl, hm⟩ := hf
    unfold shB at hs
    split at hs
    · rename_i k' hu
      simp only [RepL, RepP] at hr
      obtain ⟨y, ys, hc, rfl, rfl⟩ := hr
      have : v = .int k s := by
        cases v <;> simp [Value.cells, Value.okWide, hu, Cell.okWide, Cell.ok] at hc hok ⊢
        exact hc
      subst this
      exact ⟨.val (.int k s), by simp [RepP], by simp only [Fit1, Fit]; exact ⟨s, rfl, hm⟩⟩
    · cases hs
  | sl e =>
    unfold shB at hs
    split at hs
    · rename_i te hu
      have hf' := hf
      simp only [Fit] at hf
      obtain ⟨ls, rfl, hm, hx⟩ := hf
      simp only [RepL] at hr
      obtain ⟨y, ys, hc, hr, rfl⟩ := hr
      have : v = y := by
        cases v <;> simp [Value.cells, Value.okWide, hu, Cell.okWide, Cell.ok] at hc hok ⊢ <;> first | exact hc | skip
      subst this
      exact ⟨_, hr, by simp only [Fit1]; exact hf'⟩
    · cases hs
def shAB (P : Program) : List TypeId → List Sh → Bool
  | [], [] => true
  | t :: ts, s :: l => shB P t s && shAB P ts l
  | _, _ => false
theorem openA {base : Nat} : ∀ (l : List Sh) (ts : List TypeId) (vs : List Value) (ds : List (DataW H)) (ps : List MemPlace), shAB P ts l = true → (∀ (j : Nat) t v, ts[j]? = some t → vs[j]? = some v → Value.okWide P W .any base t v) → DataW.TrodAll enc P W 0 sp held ts vs ds ps →
    ∃ xs, RepL (· < W.heap.size) W xs vs ∧ FitA l xs
  | [], [], [], [], ps, _, _, _ => ⟨[], by simp [RepL], by simp [FitA]⟩
  | s :: l, t :: ts, v :: vs, d :: ds, ps, hs, hok, h => by
    simp only [shAB, Bool.and_eq_true] at hs
    obtain ⟨p, q, h1, h2, rfl⟩ := h
    obtain ⟨x, rx, fx⟩ := openV s t v d p hs.1 (hok 0 t v rfl rfl) h1
    obtain ⟨xs, rxs, fxs⟩ := openA l ts vs ds q hs.2 (fun j t v h1 h2 => hok (j + 1) t v (by simpa using h1) (by simpa using h2)) h2
    refine ⟨x :: xs, ?_, by simp only [FitA]; exact ⟨x, xs, rfl, fx, fxs⟩⟩
    simp only [RepL]
    exact ⟨v, vs, rfl, rx, rxs⟩
  | [], _ :: _, _, _, _, hs, _, _ => by simp [shAB] at hs
  | _ :: _, [], _, _, _, hs, _, _ => by simp [shAB] at hs
  | [], [], _ :: _, _, _, _, _, h => h.elim
  | [], [], [], _ :: _, _, _, _, h => h.elim
  | _ :: _, _ :: _, [], _, _, _, _, h => h.elim
  | _ :: _, _ :: _, _ :: _, [], _, _, _, h => h.elim
theorem below_trodAll (hl : laidOutB P = true) {W' : World} (hb : Below W.heap.size W W') : ∀ {ts : List TypeId} {vs : List Value} {ds : List (DataW H)} {ps : List MemPlace}, (ts.all fun t => P.readableRec t && decide (t < P.types.size)) = true →
    DataW.TrodAll enc P W 0 (fun _ => true) true ts vs ds ps → DataW.TrodAll enc P W' 0 (fun b => decide (b < W.heap.size)) true ts vs ds ps
  | [], [], [], _, _, h => h
  | t :: ts, v :: vs, d :: ds, ps, ht, h => by
    have hlt := DataW.TrodAll.lt h
    obtain ⟨p, q, h1, h2, rfl⟩ := h
    rw [List.all_cons, Bool.and_eq_true, Bool.and_eq_true, decide_eq_true_eq] at ht
    exact ⟨p, q, Below.trod hl ht.1.1 ht.1.2 h1 hb fun x hx => hlt x (List.mem_append_left _ hx), below_trodAll hl hb ht.2 h2, rfl⟩
  | [], _ :: _, _, _, _, h => h.elim
  | [], [], _ :: _, _, _, h => h.elim
  | _ :: _, [], _, _, _, h => h.elim
  | _ :: _, _ :: _, [], _, _, h => h.elim
theorem law_calls {G : World → Prop} {f : FuncId} {base : Nat} {l : List Sh} {ts : List TypeId} {vs : List Value} {ds : List (DataW H)} {ps : List MemPlace} (hs : shAB P ts l = true) (law : ∀ xs, FitA l xs → Meets P G f xs (.val (.bool true)))
    (hok : ∀ (j : Nat) t v, ts[j]? = some t → vs[j]? = some v → Value.okWide P W .any base t v) (h : DataW.TrodAll enc P W 0 sp held ts vs ds ps) (hG : G W) :
    Calls P f ⟨vs⟩ W fun e W' => e = .returned (.bool true) ∧ Below W.heap.size W W' := by
  obtain ⟨xs, hr, hf⟩ := openA l ts vs ds ps hs hok h
  refine ((law xs hf).calls _ vs W (fun b hb => hb) hr hG).mono fun e W' ⟨v, he, hv, hb⟩ => ?_
  simp only [RepP] at hv
  subst hv
  exact ⟨he, hb⟩
end
def CloneC (P : Program) (F el : TypeId) (sz : Nat) : Prop := ∀ (v : Value) (n : Nat) (us : List Value) (w : World), ((v = .slice none 0 0 ∧ n = 0 ∧ us = []) ∨ ∃ ad c, v = .slice (some ad) n c ∧ us.length = n * sz ∧ (∀ j u, us[j]? = some u → w.cell? (ad.add j) = some u)) → (∀ u ∈ us, u.oneCell' = true) → n ≤ 1000000 →
  Calls P F #[v] w fun e w' => ∃ x, e = .returned x ∧ Below w.heap.size w w' ∧ w'.ownsRow w.heap.size el sz x n us
theorem clone_args {B : Nat → Prop} {w : World} {n sz : Nat} {cs : List PV} {v : Value} (hv : RepP B w (.sl n cs) v) (hl : cs.length = n * sz) : ∃ us, RepL B w cs us ∧ ((v = .slice none 0 0 ∧ n = 0 ∧ us = []) ∨ ∃ ad c, v = .slice (some ad) n c ∧ us.length = n * sz ∧ (∀ j u, us[j]? = some u → w.cell? (ad.add j) = some u)) := by
  simp only [RepP] at hv
  obtain ⟨a, c, rfl, h1, h2, h3⟩ := hv
  cases a with
  | none =>
    have hc : c = 0 := by
      rcases h2 with h | h
      · exact h
      · exact absurd rfl h
    subst hc
    have hn : n = 0 := by omega
    subst hn
    have : cs = [] := List.eq_nil_of_length_eq_zero (by rw [hl]; simp)
    subst this
    exact ⟨[], by simp [RepL], .inl ⟨rfl, rfl, rfl⟩⟩
  | some ad =>
    rcases h3 with rfl | ⟨b, o, e, hb, hr⟩
    · exact ⟨[], by simp [RepL], .inr ⟨ad, c, rfl, by simpa using hl, by simp⟩⟩
    · cases e
      obtain ⟨us, hu, hc⟩ := repC_cells hr
      exact ⟨us, hu, .inr ⟨_, c, rfl, by rw [hu.length, hl], hc⟩⟩
theorem ownsRow_zero {w : World} {b : Nat} {el : TypeId} {sz n : Nat} {x : Value} {us : List Value} (h : w.ownsRow b el sz x n us) : w.ownsRow 0 el sz x n us ∧ ∀ g, x.ownBlock = some g → b ≤ g ∧ g < w.heap.size := by
  refine ⟨⟨h.1, ?_⟩, h.lt⟩
  rcases h.2 with h | ⟨g, cap, cur, h1, _, h2⟩
  · exact .inl h
  · exact .inr ⟨g, cap, cur, h1, Nat.zero_le _, h2⟩
theorem clone_r {P : Program} {G : World → Prop} {F el : TypeId} {sz : Nat} (he : Enters P F) (h : CloneC P F el sz) {n : Nat} {cs : List PV} (hl : cs.length = n * sz) (hf : cs.all leafP = true) (hn : n ≤ 1000000) : MeetsR P G F [.sl n cs] ⟨el, sz, n, cs, false⟩ := by
  refine ⟨he, fun B vs w hB hr hG => ?_⟩
  simp only [RepL] at hr
  obtain ⟨v, _, rfl, hv, rfl⟩ := hr
  obtain ⟨us, hu, hc⟩ := clone_args hv hl
  refine (h v n us w hc (leaf_one hu hf) hn).mono fun e w' ⟨x, h1, h2, h3⟩ => ?_
  obtain ⟨h4, h5⟩ := ownsRow_zero h3
  refine ⟨x, us, h1, h2, h4, RepL.mono (fun b hb => ?_) _ _ hu, fun g hg => (h5 g hg).1⟩
  have hb1 := hB b hb
  refine ⟨⟨.inl hb, Nat.lt_of_lt_of_le hb1 h2.size, fun e => ?_⟩, h2.block _ hb1⟩
  have := (h5 b e).1
  omega
theorem clone_m {P : Program} {G : World → Prop} {F el : TypeId} {sz : Nat} (he : Enters P F) (h : CloneC P F el sz) {n : Nat} {cs : List PV} (hl : cs.length = n * sz) (hf : cs.all leafP = true) (hn : n ≤ 1000000) : Meets P G F [.sl n cs] (.sl n cs) := by
  refine ⟨he, fun B vs w hB hr hG => ?_⟩
  simp only [RepL] at hr
  obtain ⟨v, _, rfl, hv, rfl⟩ := hr
  obtain ⟨us, hu, hc⟩ := clone_args hv hl
  refine (h v n us w hc (leaf_one hu hf) hn).mono fun e w' ⟨x, h1, h2, h3⟩ => ?_
  obtain ⟨h4, h5⟩ := ownsRow_zero h3
  refine ⟨x, h1, ownsRow_slice h4 (RepL.mono (fun b hb => ?_) _ _ hu) fun g hg => ?_, h2⟩
  · have hb1 := hB b hb
    exact ⟨⟨.inl hb, Nat.lt_of_lt_of_le hb1 h2.size⟩, h2.block _ hb1⟩
  · exact ⟨.inr (h5 g hg).1, (h5 g hg).2⟩
end Go.Sx
namespace Go.Proofs.YtolehnkoocnenaaGreatDoor.S
open Go Go.Sx Go.RowKit Gb Go.Shelf
end Go.Proofs.YtolehnkoocnenaaGreatDoor.S
namespace Gb
open Go Go.RowKit Go.Sx
theorem la : (∀ (α : Type) (a : α) (l m : List α), List.append (a :: l) m = a :: List.append l m) ∧ (∀ (α : Type) (m : List α), List.append [] m = m) := ⟨fun _ _ _ _ => rfl, fun _ _ => rfl⟩
theorem dig1 (n : Nat) (h : n < 10) : Lib.decDigits n = [UInt8.ofNat (48 + n)] := by
  rw [Lib.decDigits, dif_pos h]
theorem iD_pos (n : Nat) : iD ((n : Nat) : Int) = Lib.decDigits n := iD_nat n
theorem iD_neg (n : Nat) (h : 0 < n) : iD (-(n : Int)) = 45 :: Lib.decDigits n := by
  unfold iD
  rw [if_pos (by omega), Int.natAbs_neg, Int.natAbs_natCast]
theorem rT_i {x : Rat} {z : Int} (h1 : x.num = z) (h2 : x.den = 1) : rT x = iD z := by unfold rT; rw [if_pos h2, h1]
theorem t_m1 : rT (-1) = [45, 49] := (rT_i (z := -((1 : Nat) : Int)) (by decide +kernel) (by decide +kernel)).trans ((iD_neg 1 (by omega)).trans (congrArg (List.cons 45) (dig1 1 (by omega))))
theorem t_p1 : rT (1) = [49] := (rT_i (z := ((1 : Nat) : Int)) (by decide +kernel) (by decide +kernel)).trans ((iD_pos 1).trans (dig1 1 (by omega)))
end Gb
namespace Go.Proofs.YtolehnkoocnenaaGreatDoor.S
open Go Go.Sx Go.RowKit Gb Go.Shelf
end Go.Proofs.YtolehnkoocnenaaGreatDoor.S
namespace Gb
open Go Go.RowKit Go.Sx
end Gb
namespace Go.Proofs.YtolehnkoocnenaaGreatDoor.S
open Go Go.Sx Go.RowKit Gb Go.Shelf
end Go.Proofs.YtolehnkoocnenaaGreatDoor.S
namespace Gb
open Go Go.RowKit Go.Sx
theorem str_eta (s : ByteArray) : (⟨s.data.toList.toArray⟩ : ByteArray) = s := by cases s; simp
theorem fit_str {x : PV} (h : Fit1 .str x) : ∃ a : List UInt8, x = strP a ∧ a.length ≤ maxLen := by
  simp only [Fit1, Fit] at h
  obtain ⟨s, h1, h2⟩ := h
  rw [List.cons.injEq] at h1
  exact ⟨s.data.toList, by rw [h1.1]; unfold strP; rw [str_eta], by rw [Array.length_toList]; exact h2⟩
theorem fit_int {k : IntKind} {x : PV} (h : Fit1 (.int k) x) : ∃ n, x = .val (.int k n) ∧ (Lit.int k n).wf = true := by
  simp only [Fit1, Fit] at h
  obtain ⟨n, h1, h2⟩ := h
  rw [List.cons.injEq] at h1
  exact ⟨n, h1.1, h2⟩
theorem fita_nil {xs : List PV} (h : FitA [] xs) : xs = [] := h
theorem fita_cons {s : Sh} {l : List Sh} {xs : List PV} (h : FitA (s :: l) xs) : ∃ y ys, xs = y :: ys ∧ Fit1 s y ∧ FitA l ys := h
end Gb
namespace Gb
open Go Go.RowKit Go.Sx
end Gb
namespace Go.Proofs.YtolehnkoocnenaaGreatDoor.S
open Go Go.Sx Go.RowKit Gb Go.Shelf
end Go.Proofs.YtolehnkoocnenaaGreatDoor.S
namespace Gb
open Go Go.RowKit Go.Sx
theorem int_pos {n : Int} (h : 1 ≤ n) : (0 : Rat) < (n : Rat) := by exact_mod_cast (show (0 : Int) < n by omega)
theorem sq_cancel {a b c : Rat} (hc : 0 < c) (h : a * c ≤ b * c) : a ≤ b := Rat.not_lt.1 fun d => by
  have := Rat.mul_pos (show 0 < a - b by grind) hc; grind
end Gb
namespace Gb
open Go Go.RowKit Go.Sx
theorem num_pos0 {x : Rat} (h : 0 < x) : 0 < x.num := by
  have h1 := Rat.num_nonneg.2 (show 0 ≤ x by grind)
  have h2 : x.num ≠ 0 := fun e => by rw [Rat.num_eq_zero] at e; grind
  omega
theorem inv_pos {x : Rat} (h : 0 < x) : 0 < x⁻¹ := by
  refine Rat.not_le.1 fun c => ?_
  have := Rat.mul_nonneg (show 0 ≤ -x⁻¹ by grind) (show 0 ≤ x by grind)
  have := Rat.inv_mul_cancel x (by grind)
  grind
end Gb
namespace Gb
open Go Go.RowKit Go.Sx
theorem od_pos (k : Nat) : (0 : Rat) < ((od k : Int) : Rat) := int_pos (by unfold od; omega)
theorem od_succ (k : Nat) : ((od (k + 1) : Int) : Rat) = ((od k : Int) : Rat) + 2 := by
  have : od (k + 1) = od k + 2 := by unfold od; omega
  rw [this, Rat.intCast_add]; rfl
theorem tm_mul (x : Rat) (k : Nat) : tm x k * ((od k : Int) : Rat) = xk x k := by
  unfold tm
  have h := od_ne k
  generalize ((od k : Int) : Rat) = a at *
  grind
theorem xk_s (x : Rat) (k : Nat) : xk x (k + 1) = xk x k * (0 - x * x) := rfl
theorem ps_s (x : Rat) (k : Nat) : psum x (k + 1) = psum x k + tm x k := rfl
theorem alt_pos {t t' a b q : Rat} (ha : 0 < a) (hab : a ≤ b) (hq0 : 0 ≤ q) (hq1 : q ≤ 1) (h : t' * b = -(q * (t * a))) (ht : 0 ≤ t) : -t ≤ t' ∧ t' ≤ 0 := by
  have hb : 0 < b := by grind
  have h1 : 0 ≤ t * a := Rat.mul_nonneg ht (by grind)
  have h2 := Rat.mul_nonneg hq0 h1
  have h3 := mul_mono hq1 h1
  have h4 := mul_mono hab ht
  exact ⟨sq_cancel hb (by grind), sq_cancel hb (by grind)⟩
theorem alt_step {t t' a b q : Rat} (ha : 0 < a) (hab : a ≤ b) (hq0 : 0 ≤ q) (hq1 : q ≤ 1) (h : t' * b = -(q * (t * a))) : (0 ≤ t ∧ -t ≤ t' ∧ t' ≤ 0) ∨ (t ≤ 0 ∧ 0 ≤ t' ∧ t' ≤ -t) := by
  by_cases ht : 0 ≤ t
  · exact .inl ⟨ht, alt_pos ha hab hq0 hq1 h ht⟩
  · have := alt_pos (t := -t) (t' := -t') ha hab hq0 hq1 (by grind) (by grind)
    exact .inr (by grind)
theorem tm_step (x : Rat) (hx : x * x ≤ 1) (k : Nat) : (0 ≤ tm x k ∧ -tm x k ≤ tm x (k + 1) ∧ tm x (k + 1) ≤ 0) ∨ (tm x k ≤ 0 ∧ 0 ≤ tm x (k + 1) ∧ tm x (k + 1) ≤ -tm x k) := by
  refine alt_step (od_pos k) (b := ((od (k + 1) : Int) : Rat)) (by rw [od_succ]; grind) (sq_nonneg x) hx ?_
  rw [tm_mul, tm_mul, xk_s]; grind
theorem bet_in {a t u : Rat} (h : (0 ≤ t ∧ -t ≤ u ∧ u ≤ 0) ∨ (t ≤ 0 ∧ 0 ≤ u ∧ u ≤ -t)) : wi (betQ a (a + t)) (betQ (a + t) (a + t + u)) := by
  unfold wi betQ
  split <;> split <;> grind
theorem ser_in {x : Rat} (hx : x * x ≤ 1) (n : Nat) : wi (serQ x n) (serQ x (n + 1)) := bet_in (tm_step x hx n)
theorem mul_anti6 {a b x : Rat} (h : a ≤ b) (hx : x ≤ 0) : b * x ≤ a * x := by have := mul_mono h (show 0 ≤ -x by grind); grind
theorem tim_pos {p : Rat × Rat} {k : Rat} (hp : p.1 ≤ p.2) (hk : 0 ≤ k) : timQ p k = (p.1 * k, p.2 * k) := by
  have := mul_mono hp hk
  unfold timQ betQ
  rw [if_neg (by grind)]
theorem tim_neg {p : Rat × Rat} {k : Rat} (hp : p.1 ≤ p.2) (hk : k ≤ 0) : timQ p k = (p.2 * k, p.1 * k) := by
  have := mul_anti6 hp hk
  unfold timQ betQ
  by_cases h : p.2 * k < p.1 * k
  · rw [if_pos h]
  · rw [if_neg h]; have : p.2 * k = p.1 * k := by grind
    rw [this]
theorem tim_in {p q : Rat × Rat} (h : wi p q) (k : Rat) : wi (timQ p k) (timQ q k) := by
  obtain ⟨h1, h2, h3⟩ := h
  by_cases hk : 0 ≤ k
  · rw [tim_pos (by grind) hk, tim_pos h2 hk]
    exact ⟨mul_mono h1 hk, mul_mono h2 hk, mul_mono h3 hk⟩
  · have hk : k ≤ 0 := by grind
    rw [tim_neg (by grind) hk, tim_neg h2 hk]
    exact ⟨mul_anti6 h3 hk, mul_anti6 h2 hk, mul_anti6 h1 hk⟩
theorem min_in {p q r s : Rat × Rat} (h : wi p q) (k : wi r s) : wi (minQ p r) (minQ q s) := by
  unfold wi minQ at *
  grind
theorem pi_in (n : Nat) : wi (piQ n) (piQ (n + 1)) := min_in (tim_in (ser_in (by decide +kernel) n) _) (tim_in (ser_in (by decide +kernel) n) _)
theorem sq_one {x : Rat} (h1 : 0 - 1 ≤ x) (h2 : x ≤ 1) : x * x ≤ 1 := by
  have := Rat.mul_nonneg (show 0 ≤ 1 - x by grind) (show 0 ≤ 1 + x by grind)
  grind
def restQ (x : Rat) : Rat := (1 - x) / (1 + x)
theorem rest_mul {x : Rat} (h : 0 ≤ x) : restQ x * (1 + x) = 1 - x := by unfold restQ; grind
theorem rest_nn {x : Rat} (h : 0 ≤ x) (h1 : x ≤ 1) : 0 ≤ restQ x := sq_cancel (c := 1 + x) (by grind) (by rw [rest_mul h]; grind)
theorem rest_le1 {x : Rat} (h : 0 ≤ x) : restQ x ≤ 1 := sq_cancel (c := 1 + x) (by grind) (by rw [rest_mul h]; grind)
theorem rest_le3 {x : Rat} (h : 1 / 2 ≤ x) : restQ x ≤ 1 / 3 := sq_cancel (c := 1 + x) (by grind) (by rw [rest_mul (by grind)]; grind)
theorem rest_anti {x y : Rat} (h : 0 ≤ x) (h1 : y ≤ 1) (hxy : x ≤ y) : restQ y ≤ restQ x := by
  have h2 := rest_mul h
  have h3 := rest_mul (show 0 ≤ y by grind)
  have h4 := rest_nn (show 0 ≤ y by grind) h1
  have h5 := Rat.mul_nonneg h4 (show 0 ≤ y - x by grind)
  exact sq_cancel (c := 1 + x) (by grind) (by grind)
theorem arcU_eq (x : Rat) (n : Nat) : arcU x n = ((piQ n).1 * (1 / 4) - (serQ (restQ x) n).2, (piQ n).2 * (1 / 4) - (serQ (restQ x) n).1) := by
  unfold arcU
  rw [tim_pos (piQ_le n) (by decide +kernel)]
  rfl
theorem arcU_in {x : Rat} (h : 0 ≤ x) (h1 : x ≤ 1) (n : Nat) : wi (arcU x n) (arcU x (n + 1)) :=
  min_in (tim_in (pi_in n) _) (ser_in (sq_one (by have := rest_nn h h1; grind) (rest_le1 h)) n)
theorem inH_f {x : Rat} (h : inH x = false) : 1 / 2 < x ∨ x < 0 - 1 / 2 := by
  unfold inH at h
  simp only [Bool.and_eq_false_iff, Bool.not_eq_false', decide_eq_true_eq] at h
  exact h
theorem inH_t {x : Rat} (h : inH x = true) : 0 - 1 / 2 ≤ x ∧ x ≤ 1 / 2 := by
  unfold inH at h
  simp only [Bool.and_eq_true, Bool.not_eq_true', decide_eq_false_iff_not] at h
  grind
theorem arc_in {x : Rat} (hx : inU x = true) (n : Nat) : wi (arcQ x n) (arcQ x (n + 1)) := by
  obtain ⟨h1, h2⟩ := inU_rec hx
  unfold arcQ
  cases h : inH x with
  | true =>
    simp only [if_true]
    exact ser_in (sq_one h1 h2) n
  | false =>
    have := inH_f h
    simp only [Bool.false_eq_true, if_false]
    by_cases h0 : x < 0
    · rw [if_pos h0, if_pos h0]
      exact tim_in (arcU_in (by grind) (by grind) n) _
    · rw [if_neg h0, if_neg h0]
      exact arcU_in (by grind) h2 n
def q4 : Nat → Rat
  | 0 => 1
  | k + 1 => q4 k * (1 / 4)
theorem q4_nn : ∀ k, 0 ≤ q4 k
  | 0 => by decide +kernel
  | k + 1 => Rat.mul_nonneg (q4_nn k) (by decide +kernel)
def le2 (u a : Rat) : Prop := -a ≤ u ∧ u ≤ a
theorem le2_mul {u v a b : Rat} (h : le2 u a) (k : le2 v b) : le2 (u * v) (a * b) := by
  obtain ⟨h1, h2⟩ := h
  obtain ⟨k1, k2⟩ := k
  have e1 := Rat.mul_nonneg (show 0 ≤ a - u by grind) (show 0 ≤ b + v by grind)
  have e2 := Rat.mul_nonneg (show 0 ≤ a + u by grind) (show 0 ≤ b - v by grind)
  have e3 := Rat.mul_nonneg (show 0 ≤ a - u by grind) (show 0 ≤ b - v by grind)
  have e4 := Rat.mul_nonneg (show 0 ≤ a + u by grind) (show 0 ≤ b + v by grind)
  unfold le2
  grind
theorem le2_half {x : Rat} (h1 : 0 - 1 / 2 ≤ x) (h2 : x ≤ 1 / 2) : le2 x (1 / 2) := ⟨by grind, h2⟩
theorem le2_sq {x : Rat} (h : le2 x (1 / 2)) : le2 (x * x) (1 / 4) := by
  have := le2_mul h h
  rwa [show (1 / 2 : Rat) * (1 / 2) = 1 / 4 by decide +kernel] at this
theorem le2_neg {u a : Rat} (h : le2 u a) : le2 (-u) a := by unfold le2 at *; grind
theorem le2_add {u v a b : Rat} (h : le2 u a) (k : le2 v b) : le2 (u + v) (a + b) := by unfold le2 at *; grind
theorem xk_abs {x : Rat} (h : le2 x (1 / 2)) : ∀ k, le2 (xk x k) (q4 k * (1 / 2))
  | 0 => by rw [show xk x 0 = x from rfl, show q4 0 * (1 / 2) = 1 / 2 by decide +kernel]; exact h
  | k + 1 => by
    have := le2_neg (le2_mul (xk_abs h k) (le2_sq h))
    rw [xk_s, show xk x k * (0 - x * x) = -(xk x k * (x * x)) by grind, show q4 (k + 1) * (1 / 2) = q4 k * (1 / 2) * (1 / 4) by show q4 k * (1 / 4) * (1 / 2) = _; grind]
    exact this
theorem xk_diff {x y : Rat} (hx : le2 x (1 / 2)) (hy : le2 y (1 / 2)) (h : x ≤ y) : ∀ k, le2 (xk y k - xk x k) (((od k : Int) : Rat) * q4 k * (y - x))
  | 0 => by
    rw [show xk y 0 = y from rfl, show xk x 0 = x from rfl, show ((od 0 : Int) : Rat) * q4 0 * (y - x) = y - x by rw [show ((od 0 : Int) : Rat) * q4 0 = 1 by decide +kernel]; grind]
    unfold le2; grind
  | k + 1 => by
    have h1 := le2_mul (xk_diff hx hy h k) (le2_sq hx)
    have h2 : le2 (y + x) 1 := by unfold le2 at *; grind
    have h3 : le2 (y - x) (y - x) := by unfold le2; grind
    have h4 := le2_mul (xk_abs hy k) (le2_mul h2 h3)
    have h5 := le2_neg (le2_add h1 h4)
    rw [show xk y (k + 1) - xk x (k + 1) = -((xk y k - xk x k) * (x * x) + xk y k * ((y + x) * (y - x))) by rw [xk_s, xk_s]; grind]
    rw [show ((od (k + 1) : Int) : Rat) * q4 (k + 1) * (y - x) = ((od k : Int) : Rat) * q4 k * (y - x) * (1 / 4) + q4 k * (1 / 2) * (1 * (y - x)) by rw [od_succ, show q4 (k + 1) = q4 k * (1 / 4) from rfl]; grind]
    exact h5
theorem tm_diff {x y : Rat} (hx : le2 x (1 / 2)) (hy : le2 y (1 / 2)) (h : x ≤ y) (k : Nat) : -(q4 k * (y - x)) ≤ tm y k - tm x k := by
  have h1 := (xk_diff hx hy h k).1
  refine sq_cancel (od_pos k) ?_
  have e1 := tm_mul x k
  have e2 := tm_mul y k
  generalize ((od k : Int) : Rat) = a at *
  grind
theorem ps_diff {x y : Rat} (hx : le2 x (1 / 2)) (hy : le2 y (1 / 2)) (h : x ≤ y) : ∀ m, (2 / 3 + 4 / 3 * q4 (m + 1)) * (y - x) ≤ psum y (m + 1) - psum x (m + 1)
  | 0 => by
    rw [show psum y (0 + 1) = y by show 0 + y / 1 = y; grind, show psum x (0 + 1) = x by show 0 + x / 1 = x; grind, show (2 / 3 : Rat) + 4 / 3 * q4 (0 + 1) = 1 by decide +kernel]
    grind
  | m + 1 => by
    have h1 := ps_diff hx hy h m
    have h2 := tm_diff hx hy h (m + 1)
    rw [ps_s y (m + 1), ps_s x (m + 1), show q4 (m + 1 + 1) = q4 (m + 1) * (1 / 4) from rfl]
    grind
theorem ps_mono {x y : Rat} (hx : le2 x (1 / 2)) (hy : le2 y (1 / 2)) (h : x ≤ y) (m : Nat) : psum x (m + 1) ≤ psum y (m + 1) := by
  have h1 := ps_diff hx hy h m
  have h2 := q4_nn (m + 1)
  have h3 := Rat.mul_nonneg (show (0 : Rat) ≤ 2 / 3 + 4 / 3 * q4 (m + 1) by grind) (show 0 ≤ y - x by grind)
  grind
theorem xk_odd (x : Rat) : ∀ k, xk (0 - x) k = -xk x k
  | 0 => by show 0 - x = -x; grind
  | k + 1 => by rw [xk_s, xk_s, xk_odd x k]; grind
theorem ps_odd (x : Rat) : ∀ k, psum (0 - x) k = -psum x k
  | 0 => by show (0 : Rat) = -0; grind
  | k + 1 => by
    have : tm (0 - x) k = -tm x k := by unfold tm; rw [xk_odd]; grind
    rw [ps_s, ps_s, ps_odd x k, this]; grind
def ev (n : Nat) : Nat := if n ≤ 2 then 1 else 3
theorem bet_mem1 (a b : Rat) : (betQ a b).1 ≤ a ∧ a ≤ (betQ a b).2 ∧ (betQ a b).1 ≤ b ∧ b ≤ (betQ a b).2 := by unfold betQ; split <;> grind
theorem ser_mem (x : Rat) (n : Nat) (h1 : 1 ≤ n) (h2 : n ≤ 4) : (serQ x n).1 ≤ psum x (ev n + 1) ∧ psum x (ev n + 1) ≤ (serQ x n).2 := by
  have := bet_mem1 (psum x n) (psum x (n + 1))
  unfold serQ
  rcases (show n = 1 ∨ n = 2 ∨ n = 3 ∨ n = 4 by omega) with h | h | h | h <;> subst h
  · exact ⟨this.2.2.1, this.2.2.2⟩
  · exact ⟨this.1, this.2.1⟩
  · exact ⟨this.2.2.1, this.2.2.2⟩
  · exact ⟨this.1, this.2.1⟩
theorem join_ok (n : Nat) (h1 : 1 ≤ n) (h2 : n ≤ 4) : psum (1 / 2) (ev n + 1) + psum (1 / 3) (ev n + 1) ≤ (piQ n).2 * (1 / 4) := by
  have : (List.range 4).all (fun k => decide (psum (1 / 2) (ev (k + 1) + 1) + psum (1 / 3) (ev (k + 1) + 1) ≤ (piQ (k + 1)).2 * (1 / 4))) = true := by decide +kernel
  have := List.all_eq_true.1 this (n - 1) (List.mem_range.2 (by omega))
  rw [show n - 1 + 1 = n by omega] at this
  simpa using this
theorem rest_half {x : Rat} (h : 1 / 2 ≤ x) (h1 : x ≤ 1) : le2 (restQ x) (1 / 2) := by
  have a := rest_nn (show 0 ≤ x by grind) h1
  have b := rest_le3 h
  unfold le2; grind
theorem up_1 {x z : Rat} (hx : 1 / 2 ≤ x) (hx1 : x ≤ 1) (hz : le2 z (1 / 2)) (n : Nat) (h1 : 1 ≤ n) (h2 : n ≤ 4) : psum z (ev n + 1) ≤ (arcU x n).2 := by
  have a := ps_mono hz (y := 1 / 2) (by unfold le2; grind) hz.2 (ev n)
  have b := join_ok n h1 h2
  have c := ps_mono (rest_half hx hx1) (y := 1 / 3) (by unfold le2; grind) (rest_le3 hx) (ev n)
  have d := (ser_mem (restQ x) n h1 h2).1
  rw [arcU_eq]
  show _ ≤ (piQ n).2 * (1 / 4) - (serQ (restQ x) n).1
  grind
theorem up_2 {x y : Rat} (hx : 1 / 2 ≤ x) (hy : y ≤ 1) (hxy : x ≤ y) (n : Nat) (h1 : 1 ≤ n) (h2 : n ≤ 4) : (arcU x n).1 ≤ (arcU y n).2 := by
  have a := ps_mono (rest_half (show 1 / 2 ≤ y by grind) hy) (rest_half hx (by grind)) (rest_anti (by grind) hy hxy) (ev n)
  have b := (ser_mem (restQ x) n h1 h2).2
  have c := (ser_mem (restQ y) n h1 h2).1
  have d := piQ_le n
  rw [arcU_eq, arcU_eq]
  show (piQ n).1 * (1 / 4) - (serQ (restQ x) n).2 ≤ (piQ n).2 * (1 / 4) - (serQ (restQ y) n).1
  grind
theorem arc_cases (x : Rat) (h : inU x = true) (n : Nat) : (le2 x (1 / 2) ∧ arcQ x n = serQ x n) ∨ (1 / 2 ≤ x ∧ x ≤ 1 ∧ arcQ x n = arcU x n) ∨ (1 / 2 ≤ 0 - x ∧ 0 - x ≤ 1 ∧ arcQ x n = (-(arcU (0 - x) n).2, -(arcU (0 - x) n).1)) := by
  obtain ⟨h1, h2⟩ := inU_rec h
  cases hh : inH x with
  | true => exact .inl ⟨le2_half (inH_t hh).1 (inH_t hh).2, by unfold arcQ; rw [hh, if_pos rfl]⟩
  | false =>
    have := inH_f hh
    by_cases h0 : x < 0
    · refine .inr (.inr ⟨by grind, by grind, ?_⟩)
      unfold arcQ
      rw [hh, if_neg (by decide), if_pos h0, tim_neg (arcU_le _ _) (by decide +kernel)]
      congr 1 <;> grind
    · exact .inr (.inl ⟨by grind, h2, by unfold arcQ; rw [hh, if_neg (by decide), if_neg h0]⟩)
theorem arc_ord {s t : Rat} (hs : inU s = true) (ht : inU t = true) (h : s ≤ t) (n : Nat) (h1 : 1 ≤ n) (h2 : n ≤ 4) : (arcQ s n).1 ≤ (arcQ t n).2 := by
  have z0 : psum 0 (ev n + 1) = 0 := by have := ps_odd 0 (ev n + 1); rw [show (0 : Rat) - 0 = 0 by grind] at this; grind
  have l0 : le2 (0 : Rat) (1 / 2) := by unfold le2; grind
  rcases arc_cases s hs n with ⟨a1, a2⟩ | ⟨a1, a2, a3⟩ | ⟨a1, a2, a3⟩
  · have m1 := (ser_mem s n h1 h2).1
    rcases arc_cases t ht n with ⟨b1, b2⟩ | ⟨b1, b2, b3⟩ | ⟨b1, b2, b3⟩
    · have := ps_mono a1 b1 h (ev n)
      have m2 := (ser_mem t n h1 h2).2
      rw [a2, b2]; grind
    · have := up_1 b1 b2 a1 n h1 h2
      rw [a2, b3]; grind
    · have : s = t := by have := a1.1; grind
      subst this
      exact arcQ_le s n
  · rcases arc_cases t ht n with ⟨b1, b2⟩ | ⟨b1, b2, b3⟩ | ⟨b1, b2, b3⟩
    · have : s = t := by have := b1.2; grind
      subst this
      exact arcQ_le s n
    · rw [a3, b3]; exact up_2 a1 b2 h n h1 h2
    · exfalso; grind
  · rcases arc_cases t ht n with ⟨b1, b2⟩ | ⟨b1, b2, b3⟩ | ⟨b1, b2, b3⟩
    · have c := up_1 a1 a2 (z := 0 - t) (by unfold le2 at *; grind) n h1 h2
      have m2 := (ser_mem t n h1 h2).2
      rw [ps_odd] at c
      rw [a3, b2]
      show -(arcU (0 - s) n).2 ≤ _
      grind
    · have c := up_1 a1 a2 l0 n h1 h2
      have d := up_1 b1 b2 l0 n h1 h2
      rw [a3, b3]
      show -(arcU (0 - s) n).2 ≤ _
      grind
    · have c := up_2 (x := 0 - t) (y := 0 - s) b1 a2 (by grind) n h1 h2
      rw [a3, b3]
      show -(arcU (0 - s) n).2 ≤ -(arcU (0 - t) n).1
      grind
theorem over_1 (p q : Rat × Rat) : (overQ p q).1 ≤ p.1 * q.2⁻¹ ∧ p.2 * q.2⁻¹ ≤ (overQ p q).2 := by
  unfold overQ timesQ
  rw [timQ_scale, timQ_scale]
  have a := bet_mem1 (p.1 * q.2⁻¹) (p.2 * q.2⁻¹)
  unfold timQ joinQ leastQ mostQ
  dsimp only
  constructor <;> split <;> grind
theorem deg_ord {s t : Rat} (hs : inU s = true) (ht : inU t = true) (h : s ≤ t) (n : Nat) (h1 : 1 ≤ n) (h2 : n ≤ 4) : (degQ s n).1 ≤ (degQ t n).2 := by
  have a := arc_ord hs ht h n h1 h2
  have p := piQ_pos n h1 (by omega)
  have pl := piQ_le n
  have i := inv_pos (show 0 < (piQ n).2 by grind)
  unfold degQ
  have o1 := (over_1 (timQ (arcQ s n) 360) (piQ n)).1
  have o2 := (over_1 (timQ (arcQ t n) 360) (piQ n)).2
  rw [tim_pos (arcQ_le s n) (by decide +kernel)] at o1 ⊢
  rw [tim_pos (arcQ_le t n) (by decide +kernel)] at o2 ⊢
  have e1 := mul_mono (mul_mono a (show (0 : Rat) ≤ 360 by decide +kernel)) (show 0 ≤ (piQ n).2⁻¹ by grind)
  dsimp only at o1 o2
  grind
theorem deg_at (n : Nat) (h1 : 1 ≤ n) (h2 : n ≤ 4) : ((degQ 0 n).1 ≤ 0 ∧ 0 ≤ (degQ 0 n).2) ∧ ((degQ 1 n).1 ≤ 90 ∧ 90 ≤ (degQ 1 n).2) ∧ ((degQ (-1) n).1 ≤ -90 ∧ -90 ≤ (degQ (-1) n).2) := by
  have : (List.range 4).all (fun k => decide (((degQ 0 (k + 1)).1 ≤ 0 ∧ 0 ≤ (degQ 0 (k + 1)).2) ∧ ((degQ 1 (k + 1)).1 ≤ 90 ∧ 90 ≤ (degQ 1 (k + 1)).2) ∧ ((degQ (-1) (k + 1)).1 ≤ -90 ∧ -90 ≤ (degQ (-1) (k + 1)).2))) = true := by decide +kernel
  have := List.all_eq_true.1 this (n - 1) (List.mem_range.2 (by omega))
  rw [show n - 1 + 1 = n by omega] at this
  simpa using this
theorem find_lo (d : Rat) (n : Nat) : ∀ (k : Nat) (o : Rat × Rat), (findL d n k o).1 = o.1 ∨ (degQ (findL d n k o).1 n).2 ≤ d
  | 0, o => .inl rfl
  | k + 1, o => by
    show (match stepF d n o with | some o' => findL d n k o' | none => o).1 = _ ∨ (degQ (match stepF d n o with | some o' => findL d n k o' | none => o).1 n).2 ≤ d
    unfold stepF
    by_cases h1 : d < (degQ ((o.1 + o.2) * (1 / 2)) n).2
    · rw [if_pos h1]
      by_cases h2 : d < (degQ ((o.1 + o.2) * (1 / 2)) n).1
      · rw [if_pos h2]
        exact find_lo d n k (o.1, (o.1 + o.2) * (1 / 2))
      · rw [if_neg h2]; exact .inl rfl
    · rw [if_neg h1]
      rcases find_lo d n k ((o.1 + o.2) * (1 / 2), o.2) with h | h
      · refine .inr ?_
        show (degQ (findL d n k ((o.1 + o.2) * (1 / 2), o.2)).1 n).2 ≤ d
        rw [h]
        exact Rat.not_lt.1 h1
      · exact .inr h
theorem find_hi (d : Rat) (n : Nat) : ∀ (k : Nat) (o : Rat × Rat), (findL d n k o).2 = o.2 ∨ d < (degQ (findL d n k o).2 n).1
  | 0, o => .inl rfl
  | k + 1, o => by
    show (match stepF d n o with | some o' => findL d n k o' | none => o).2 = _ ∨ d < (degQ (match stepF d n o with | some o' => findL d n k o' | none => o).2 n).1
    unfold stepF
    by_cases h1 : d < (degQ ((o.1 + o.2) * (1 / 2)) n).2
    · rw [if_pos h1]
      by_cases h2 : d < (degQ ((o.1 + o.2) * (1 / 2)) n).1
      · rw [if_pos h2]
        rcases find_hi d n k (o.1, (o.1 + o.2) * (1 / 2)) with h | h
        · refine .inr ?_
          show d < (degQ (findL d n k (o.1, (o.1 + o.2) * (1 / 2))).2 n).1
          rw [h]
          exact h2
        · exact .inr h
      · rw [if_neg h2]; exact .inl rfl
    · rw [if_neg h1]
      exact find_hi d n k ((o.1 + o.2) * (1 / 2), o.2)
theorem find_wi (d : Rat) (n : Nat) : ∀ (k : Nat) (o : Rat × Rat), o.1 ≤ o.2 → wi o (findL d n k o)
  | 0, o, h => ⟨Rat.le_refl, h, Rat.le_refl⟩
  | k + 1, o, h => by
    show wi o (match stepF d n o with | some o' => findL d n k o' | none => o)
    unfold stepF
    by_cases h1 : d < (degQ ((o.1 + o.2) * (1 / 2)) n).2
    · rw [if_pos h1]
      by_cases h2 : d < (degQ ((o.1 + o.2) * (1 / 2)) n).1
      · rw [if_pos h2]
        have := find_wi d n k (o.1, (o.1 + o.2) * (1 / 2)) (by dsimp only; grind)
        unfold wi at *
        dsimp only at *
        grind
      · rw [if_neg h2]; exact ⟨Rat.le_refl, h, Rat.le_refl⟩
    · rw [if_neg h1]
      have := find_wi d n k ((o.1 + o.2) * (1 / 2), o.2) (by dsimp only; grind)
      unfold wi at *
      dsimp only at *
      grind
theorem find_next (d : Rat) (n : Nat) : ∀ (k : Nat) (o : Rat × Rat), o.1 ≤ o.2 → wi (findL d n k o) (findL d n (k + 1) o)
  | 0, o, h => find_wi d n 1 o h
  | k + 1, o, h => by
    show wi (match stepF d n o with | some o' => findL d n k o' | none => o) (match stepF d n o with | some o' => findL d n (k + 1) o' | none => o)
    unfold stepF
    by_cases h1 : d < (degQ ((o.1 + o.2) * (1 / 2)) n).2
    · rw [if_pos h1]
      by_cases h2 : d < (degQ ((o.1 + o.2) * (1 / 2)) n).1
      · rw [if_pos h2]
        exact find_next d n k (o.1, (o.1 + o.2) * (1 / 2)) (by dsimp only; grind)
      · rw [if_neg h2]; exact ⟨Rat.le_refl, h, Rat.le_refl⟩
    · rw [if_neg h1]
      exact find_next d n k ((o.1 + o.2) * (1 / 2), o.2) (by dsimp only; grind)
theorem find_grid (d : Rat) (n : Nat) : ∀ (k i : Nat) (o : Rat × Rat), GridI i o → ∃ j, j ≤ i + k ∧ GridI j (findL d n k o)
  | 0, i, o, h => ⟨i, by omega, h⟩
  | k + 1, i, o, h => by
    show ∃ j, j ≤ i + (k + 1) ∧ GridI j (match stepF d n o with | some o' => findL d n k o' | none => o)
    unfold stepF
    by_cases h1 : d < (degQ ((o.1 + o.2) * (1 / 2)) n).2
    · rw [if_pos h1]
      by_cases h2 : d < (degQ ((o.1 + o.2) * (1 / 2)) n).1
      · rw [if_pos h2]
        obtain ⟨j, hj, hg⟩ := find_grid d n k (i + 1) _ (grid_lo h)
        exact ⟨j, by omega, hg⟩
      · rw [if_neg h2]; exact ⟨i, by omega, h⟩
    · rw [if_neg h1]
      obtain ⟨j, hj, hg⟩ := find_grid d n k (i + 1) _ (grid_hi h)
      exact ⟨j, by omega, hg⟩
theorem find_le (d : Rat) (n k : Nat) : (findL d n k (-1, 1)).1 ≤ (findL d n k (-1, 1)).2 := (find_wi d n k (-1, 1) (by decide +kernel)).2.1
theorem find_inU (d : Rat) (n k : Nat) : inU (findL d n k (-1, 1)).1 = true ∧ inU (findL d n k (-1, 1)).2 = true := by
  obtain ⟨h1, h2, h3⟩ := find_wi d n k (-1, 1) (by decide +kernel)
  dsimp only at h1 h3
  unfold inU
  simp only [Bool.and_eq_true, Bool.not_eq_true', decide_eq_false_iff_not]
  grind
end Gb
namespace Gb
open Go Go.RowKit Go.Sx
theorem c35 : rtP (3 / 5) = strP [51, 47, 53] := (cst [51, 47, 53] (3 / 5) (by decide +kernel)).1
theorem c45x : rtP (4 / 5) = strP [52, 47, 53] := (cst [52, 47, 53] (4 / 5) (by decide +kernel)).1
theorem c34 : rtP (3 / 4) = strP [51, 47, 52] := (cst [51, 47, 52] (3 / 4) (by decide +kernel)).1
theorem c1124 : rtP (11 / 24) = strP [49, 49, 47, 50, 52] := (cst [49, 49, 47, 50, 52] (11 / 24) (by decide +kernel)).1
theorem c355 : rtP (355 / 113) = strP [51, 53, 53, 47, 49, 49, 51] ∧ Sz 1 (355 / 113 : Rat) := cst [51, 53, 53, 47, 49, 49, 51] (355 / 113) (by decide +kernel)
theorem aw6_c : acosP [49, 47, 50] = .tup [strP [51, 47, 53], iP 0] := by
  unfold acosP
  rw [if_pos (show achk [[49, 47, 50]] = 0 by decide +kernel), show cosQ (ratOf [49, 47, 50]) = 3 / 5 by decide +kernel, c35]
theorem aw6_s : asinP [49, 47, 50] = .tup [strP [52, 47, 53], iP 0] := by
  unfold asinP
  rw [if_pos (show achk [[49, 47, 50]] = 0 by decide +kernel), show sinQ (ratOf [49, 47, 50]) = 4 / 5 by decide +kernel, c45x]
theorem aw6_g : asumP [49, 47, 50] [49, 47, 50] = .tup [strP [], iP 15] := by
  unfold asumP
  rw [if_pos (show achk [[49, 47, 50], [49, 47, 50]] = 0 by decide +kernel), if_neg (show ¬ (1 - ratOf [49, 47, 50] * ratOf [49, 47, 50] = 0) by decide +kernel), if_neg (by decide +kernel)]
theorem aw6_t : asumP [49, 47, 51] [49, 47, 51] = .tup [strP [51, 47, 52], iP 0] := by
  unfold asumP
  rw [if_pos (show achk [[49, 47, 51], [49, 47, 51]] = 0 by decide +kernel), if_neg (show ¬ (1 - ratOf [49, 47, 51] * ratOf [49, 47, 51] = 0) by decide +kernel), if_pos (by decide +kernel), show (ratOf [49, 47, 51] + ratOf [49, 47, 51]) / (1 - ratOf [49, 47, 51] * ratOf [49, 47, 51]) = 3 / 4 by decide +kernel, c34]
theorem aw6_a : aarcP [49, 47, 50] 1 = .tup [ivP [49, 49, 47, 50, 52] [49, 47, 50], iP 0] := by
  unfold aarcP
  rw [if_pos (show askE [49, 47, 50] 1 = 0 by decide +kernel), show arcQ (ratOf [49, 47, 50]) (Int.toNat 1) = (11 / 24, 1 / 2) by decide +kernel]
  show PV.tup [.agg [rtP (11 / 24), rtP (1 / 2)], iP 0] = _
  rw [c1124, c12.1]; rfl
theorem aw6_d : adegP [49] 3 = .tup [ivQ (degQ 1 3), iP 0] := by
  unfold adegP
  rw [if_pos (show askE [49] 3 = 0 by decide +kernel), show ratOf [49] = 1 by decide +kernel]; rfl
theorem aw6_p : apiP 3 = .tup [ivQ (piQ 3), iP 0] := by
  unfold apiP
  rw [if_pos (show cntE 3 = 0 by decide +kernel)]; rfl
theorem aw6_b : afindP [57, 48] 3 2 = .tup [ivQ (findL 90 3 2 (-1, 1)), iP 0] := by
  unfold afindP
  rw [if_pos (show finE [57, 48] 3 2 = 0 by decide +kernel), show ratOf [57, 48] = 90 by decide +kernel]; rfl
theorem pi3 : (piQ 3).1 ≤ 355 / 113 ∧ 355 / 113 ≤ (piQ 3).2 := by decide +kernel
end Gb
namespace Go.Proofs.YtolehnkoocnenaaGreatDoor.S
open Go Go.Sx Go.RowKit Gb Go.Shelf
theorem has_q {p : Rat × Rat} {z : Rat} (sp : SzI 1900 p) (sz : Sz 1900 z) (h1 : p.1 ≤ z) (h2 : z ≤ p.2) : Meets Tryz.prog Gd 37 [ivQ p, rtP z] (.val (.bool true)) := by
  have := has_n (rT p.1) (rT p.2) (rT z) (by have := rT_len sp.1; omega) (by have := rT_len sp.2; omega) (by have := rT_len sz; omega)
  rw [isIv_rT (by grind), isRat_rT, ratOf_rT, ratOf_rT, ratOf_rT, decide_eq_false (show ¬ z < p.1 by grind), decide_eq_false (show ¬ p.2 < z by grind)] at this
  exact this
set_option maxRecDepth 100000 in
set_option maxHeartbeats 8000000 in
theorem awake6_n : Meets Tryz.prog Gd 11 [] (.val (.bool true)) := by
  refine meets_of_vc (Y := {}) (N := 103) (rs := [.tmp 0]) mix tk gd Tryz.func11 rfl (by kernel_rfl) rfl rfl (by simp) (by kernel_rfl) ?_
  have ha := acos_n [49, 47, 50] (by simp)
  have hb := asin_n [49, 47, 50] (by simp)
  have hc := asum_n [49, 47, 50] [49, 47, 50] (by simp) (by simp)
  have hd := asum_n [49, 47, 51] [49, 47, 51] (by simp) (by simp)
  have he := aarc_n [49, 47, 50] 1 (by simp) (by omega)
  have hf := adeg_n [49] 3 (by simp) (by omega)
  have hg := api_n 3 (by omega)
  have hh := afind_n [57, 48] 3 2 (by simp) (by omega)
  rw [aw6_c] at ha
  rw [aw6_s] at hb
  rw [aw6_g] at hc
  rw [aw6_t] at hd
  rw [aw6_a] at he
  rw [aw6_d] at hf
  rw [aw6_p] at hg
  rw [aw6_b] at hh
  have d3 := deg_at 3 (by omega) (by omega)
  have H1 := has_q (p := degQ 1 3) (z := 90) ((degQ_sz (c1.2.mono (by omega)) 3 (by omega)).mono (by omega)) (c90.2.mono (by omega)) d3.2.1.1 d3.2.1.2
  have H2 := has_q (p := piQ 3) (z := 355 / 113) ((piQ_sz 3 (by omega)).mono (by omega)) (c355.2.mono (by omega)) pi3.1 pi3.2
  rw [c90.1] at H1
  rw [c355.1] at H2
  have fl := find_le 90 3 2
  obtain ⟨j, hj, hg2⟩ := find_grid 90 3 2 0 (-1, 1) grid0
  have zf := (grid_sz (by omega) hg2).1
  have V := ivalid2_n (rT (findL 90 3 2 (-1, 1)).1) (rT (findL 90 3 2 (-1, 1)).2) (by have := rT_len zf.1; omega) (by have := rT_len zf.2; omega)
  rw [isIv_rT fl] at V
  clear d3 fl hg2 zf
  rw [ivQ_pair (findL 90 3 2 (-1, 1))] at hh
  generalize rT (findL 90 3 2 (-1, 1)).1 = f1 at *
  generalize rT (findL 90 3 2 (-1, 1)).2 = f2 at *
  generalize degQ 1 3 = dq at *
  generalize piQ 3 = pq at *
  rw [ivQ_pair] at hf hg H1 H2
  have W1 := avalid_n [45, 49] (by simp)
  have W2 := avalid_n [50] (by simp)
  rw [show (isRat [45, 49] && inU (ratOf [45, 49])) = true by decide +kernel] at W1
  rw [show (isRat [50] && inU (ratOf [50])) = false by decide +kernel] at W2
  simp (maxSteps := 10000000) only [↓sx, sx, ↓ty, ↓reduceIte, Nat.reduceEqDiff, Nat.reduceBeqDiff, Nat.reduceAdd, Nat.reduceLeDiff, Nat.reduceLT, Nat.reduceMul, Nat.reduceSub, Int.reduceEq, Int.reduceBNe, Int.reduceBEq, ne_eq, not_false_eq_true, pc, ls, bs, and_true, true_and, and_self, Nat.reduceAdd, Nat.le_refl, leafP, pi]
  refine CallT.mk (t := ⟨⟩) ha ?_
  simp (maxSteps := 10000000) only [↓sx, sx, ↓ty, ↓reduceIte, Nat.reduceEqDiff, Nat.reduceBeqDiff, Nat.reduceAdd, Nat.reduceLeDiff, Nat.reduceLT, Nat.reduceMul, Nat.reduceSub, Int.reduceEq, Int.reduceBNe, Int.reduceBEq, ne_eq, not_false_eq_true, pc, ls, bs, and_true, true_and, and_self, Nat.reduceAdd, Nat.le_refl, leafP, pi]
  refine CallT.mk (t := ⟨⟩) hb ?_
  simp (maxSteps := 10000000) only [↓sx, sx, ↓ty, ↓reduceIte, Nat.reduceEqDiff, Nat.reduceBeqDiff, Nat.reduceAdd, Nat.reduceLeDiff, Nat.reduceLT, Nat.reduceMul, Nat.reduceSub, Int.reduceEq, Int.reduceBNe, Int.reduceBEq, ne_eq, not_false_eq_true, pc, ls, bs, and_true, true_and, and_self, Nat.reduceAdd, Nat.le_refl, leafP, pi]
  refine CallT.mk (t := ⟨⟩) hc ?_
  simp (maxSteps := 10000000) only [↓sx, sx, ↓ty, ↓reduceIte, Nat.reduceEqDiff, Nat.reduceBeqDiff, Nat.reduceAdd, Nat.reduceLeDiff, Nat.reduceLT, Nat.reduceMul, Nat.reduceSub, Int.reduceEq, Int.reduceBNe, Int.reduceBEq, ne_eq, not_false_eq_true, pc, ls, bs, and_true, true_and, and_self, Nat.reduceAdd, Nat.le_refl, leafP, pi]
  refine CallT.mk (t := ⟨⟩) hd ?_
  simp (maxSteps := 10000000) only [↓sx, sx, ↓ty, ↓reduceIte, Nat.reduceEqDiff, Nat.reduceBeqDiff, Nat.reduceAdd, Nat.reduceLeDiff, Nat.reduceLT, Nat.reduceMul, Nat.reduceSub, Int.reduceEq, Int.reduceBNe, Int.reduceBEq, ne_eq, not_false_eq_true, pc, ls, bs, and_true, true_and, and_self, Nat.reduceAdd, Nat.le_refl, leafP, pi]
  refine CallT.mk (t := ⟨⟩) he ?_
  simp (maxSteps := 10000000) only [↓sx, sx, ↓ty, ↓reduceIte, Nat.reduceEqDiff, Nat.reduceBeqDiff, Nat.reduceAdd, Nat.reduceLeDiff, Nat.reduceLT, Nat.reduceMul, Nat.reduceSub, Int.reduceEq, Int.reduceBNe, Int.reduceBEq, ne_eq, not_false_eq_true, pc, ls, bs, and_true, true_and, and_self, Nat.reduceAdd, Nat.le_refl, leafP, pi]
  refine CallT.mk (t := ⟨⟩) hf ?_
  simp (maxSteps := 10000000) only [↓sx, sx, ↓ty, ↓reduceIte, Nat.reduceEqDiff, Nat.reduceBeqDiff, Nat.reduceAdd, Nat.reduceLeDiff, Nat.reduceLT, Nat.reduceMul, Nat.reduceSub, Int.reduceEq, Int.reduceBNe, Int.reduceBEq, ne_eq, not_false_eq_true, pc, ls, bs, and_true, true_and, and_self, Nat.reduceAdd, Nat.le_refl, leafP, pi]
  refine CallT.mk (t := ⟨⟩) hg ?_
  simp (maxSteps := 10000000) only [↓sx, sx, ↓ty, ↓reduceIte, Nat.reduceEqDiff, Nat.reduceBeqDiff, Nat.reduceAdd, Nat.reduceLeDiff, Nat.reduceLT, Nat.reduceMul, Nat.reduceSub, Int.reduceEq, Int.reduceBNe, Int.reduceBEq, ne_eq, not_false_eq_true, pc, ls, bs, and_true, true_and, and_self, Nat.reduceAdd, Nat.le_refl, leafP, pi]
  refine CallT.mk (t := ⟨⟩) hh ?_
  simp (maxSteps := 10000000) only [↓sx, sx, ↓ty, ↓reduceIte, Nat.reduceEqDiff, Nat.reduceBeqDiff, Nat.reduceAdd, Nat.reduceLeDiff, Nat.reduceLT, Nat.reduceMul, Nat.reduceSub, Int.reduceEq, Int.reduceBNe, Int.reduceBEq, ne_eq, not_false_eq_true, pc, ls, bs, and_true, true_and, and_self, Nat.reduceAdd, Nat.le_refl, leafP, pi, la, ag, beq_self_eq_true, w4, Int.reduceAdd]
  refine CallT.mk (t := ⟨⟩) H1 ?_
  simp (maxSteps := 10000000) only [↓sx, sx, ↓ty, ↓reduceIte, Nat.reduceEqDiff, Nat.reduceBeqDiff, Nat.reduceAdd, Nat.reduceLeDiff, Nat.reduceLT, Nat.reduceMul, Nat.reduceSub, Int.reduceEq, Int.reduceBNe, Int.reduceBEq, ne_eq, not_false_eq_true, pc, ls, bs, and_true, true_and, and_self, Nat.reduceAdd, Nat.le_refl, leafP, pi, la, ag, beq_self_eq_true]
  refine CallT.mk (t := ⟨⟩) H2 ?_
  simp (maxSteps := 10000000) only [↓sx, sx, ↓ty, ↓reduceIte, Nat.reduceEqDiff, Nat.reduceBeqDiff, Nat.reduceAdd, Nat.reduceLeDiff, Nat.reduceLT, Nat.reduceMul, Nat.reduceSub, Int.reduceEq, Int.reduceBNe, Int.reduceBEq, ne_eq, not_false_eq_true, pc, ls, bs, and_true, true_and, and_self, Nat.reduceAdd, Nat.le_refl, leafP, pi, la, ag, beq_self_eq_true]
  refine CallT.mk (t := ⟨⟩) V ?_
  simp (maxSteps := 10000000) only [↓sx, sx, ↓ty, ↓reduceIte, Nat.reduceEqDiff, Nat.reduceBeqDiff, Nat.reduceAdd, Nat.reduceLeDiff, Nat.reduceLT, Nat.reduceMul, Nat.reduceSub, Int.reduceEq, Int.reduceBNe, Int.reduceBEq, ne_eq, not_false_eq_true, pc, ls, bs, and_true, true_and, and_self, Nat.reduceAdd, Nat.le_refl, leafP, pi, la, ag, beq_self_eq_true]
  refine CallT.mk (t := ⟨⟩) W1 ?_
  simp (maxSteps := 10000000) only [↓sx, sx, ↓ty, ↓reduceIte, Nat.reduceEqDiff, Nat.reduceBeqDiff, Nat.reduceAdd, Nat.reduceLeDiff, Nat.reduceLT, Nat.reduceMul, Nat.reduceSub, Int.reduceEq, Int.reduceBNe, Int.reduceBEq, ne_eq, not_false_eq_true, pc, ls, bs, and_true, true_and, and_self, Nat.reduceAdd, Nat.le_refl, leafP, pi, la, ag, beq_self_eq_true]
  refine CallT.mk (t := ⟨⟩) W2 ?_
  simp (maxSteps := 10000000) only [↓sx, sx, ↓ty, ↓reduceIte, Nat.reduceEqDiff, Nat.reduceBeqDiff, Nat.reduceAdd, Nat.reduceLeDiff, Nat.reduceLT, Nat.reduceMul, Nat.reduceSub, Int.reduceEq, Int.reduceBNe, Int.reduceBEq, ne_eq, not_false_eq_true, pc, ls, bs, and_true, true_and, and_self, Nat.reduceAdd, Nat.le_refl, leafP, pi, la, ag, beq_self_eq_true]
end Go.Proofs.YtolehnkoocnenaaGreatDoor.S
namespace Gb
open Go Go.RowKit Go.Sx
end Gb
namespace Go.Proofs.YtolehnkoocnenaaGreatDoor.S
open Go Go.Sx Go.RowKit Gb Go.Shelf
end Go.Proofs.YtolehnkoocnenaaGreatDoor.S
namespace Gb
open Go Go.RowKit Go.Sx
theorem chk1 {x : Rat} (h : inU x = true) : achk [rT x] = 0 := by unfold achk; simp [isRat_rT, ratOf_rT, h]
end Gb
namespace Go.Proofs.YtolehnkoocnenaaGreatDoor.S
open Go Go.Sx Go.RowKit Gb Go.Shelf
end Go.Proofs.YtolehnkoocnenaaGreatDoor.S
namespace Gb
open Go Go.RowKit Go.Sx
theorem serQ_sz4 {a : Nat} {x : Rat} (h : Sz a x) (ha : 1 ≤ a) (n : Nat) (hn : n ≤ 4) : SzI (25 * a + 11) (serQ x n) := by
  have h1 : n * n * a ≤ 16 * a := Nat.mul_le_mul_right a (by have := Nat.mul_le_mul hn hn; omega)
  have h2 : (n + 1) * (n + 1) * a ≤ 25 * a := Nat.mul_le_mul_right a (by have := Nat.mul_le_mul (show n + 1 ≤ 5 by omega) (show n + 1 ≤ 5 by omega); omega)
  exact betQ_sz ((psum_sz h ha n (by omega)).mono (by omega)) ((psum_sz h ha (n + 1) (by omega)).mono (by omega))
theorem piQ_sz4 (n : Nat) (hn : n ≤ 4) : SzI 75 (piQ n) := (minQ_sz (timQ_sz (serQ_sz4 (c15.2) (by omega) n hn) (c16.2)) (timQ_sz (serQ_sz4 (c1239.2) (by omega) n hn) (c4.2))).mono (by omega)
theorem arcU_sz4 {x : Rat} (h : Sz 2 x) (n : Nat) (hn : n ≤ 4) : SzI 288 (arcU x n) := (minQ_sz (timQ_sz (piQ_sz4 n hn) c14.2) (serQ_sz4 (rest_sz h) (by omega) n hn)).mono (by omega)
theorem arcQ_sz4 {x : Rat} (h : Sz 2 x) (n : Nat) (hn : n ≤ 4) : SzI 289 (arcQ x n) := by
  unfold arcQ
  split
  · exact (serQ_sz4 h (by omega) n hn).mono (by omega)
  · split
    · exact timQ_sz (arcU_sz4 (neg_sz2 h) n hn) cm1.2
    · exact (arcU_sz4 h n hn).mono (by omega)
theorem degQ_sz4 {x : Rat} (h : Sz 2 x) (n : Nat) (hn : n ≤ 4) : SzI 580 (degQ x n) :=
  (overQ_sz (k := 290) (by omega) (timQ_sz (arcQ_sz4 h n hn) c360.2) ((piQ_sz4 n hn).mono (by omega))).mono (by omega)
theorem cntE_0 {n : Nat} (h1 : 1 ≤ n) (h2 : n ≤ 24) : cntE (n : Int) = 0 := by unfold cntE; rw [if_neg (by omega)]
theorem apiP_q {n : Nat} (h1 : 1 ≤ n) (h2 : n ≤ 24) : apiP (n : Int) = .tup [ivQ (piQ n), iP 0] := by unfold apiP; rw [if_pos (cntE_0 h1 h2), Int.toNat_natCast]
theorem askE_0 {x : Rat} (h : inU x = true) {n : Nat} (h1 : 1 ≤ n) (h2 : n ≤ 24) : askE (rT x) (n : Int) = 0 := by unfold askE; rw [if_pos (chk1 h), cntE_0 h1 h2]
theorem tmodp {n m : Int} (h : 0 ≤ n) : Int.tmod n m = n % m := Int.tmod_eq_emod_of_nonneg h
theorem sign_law {a b x y : Rat} (h1 : a ≤ b) (hs : x ≤ y → a ≤ 0) (ht : y ≤ x → 0 ≤ b) :
    ∃ s c : Int, ∃ u : Bool, isignP (rT a) (rT b) = .tup [iP s, .val (.bool u), iP 0] ∧ c = (x - y).num.sign ∧ (u = false ∨ s = 0 ∨ s = c) := by
  unfold isignP
  rw [isIv_rT h1, if_pos rfl, ratOf_rT, ratOf_rT]
  by_cases c1 : 0 < a
  · rw [if_pos c1]
    have : y < x := Rat.not_le.1 fun h => by have := hs h; grind
    exact ⟨1, _, true, rfl, rfl, .inr (.inr (Int.sign_eq_one_of_pos (num_pos0 (show 0 < x - y by grind))).symm)⟩
  · rw [if_neg c1]
    by_cases c2 : b < 0
    · rw [if_pos c2]
      have : x < y := Rat.not_le.1 fun h => by have := ht h; grind
      have h3 := (lt_sign x y).2 this
      refine ⟨-1, _, true, rfl, rfl, .inr (.inr ?_)⟩
      rcases Int.lt_trichotomy (x - y).num 0 with h | h | h
      · rw [Int.sign_eq_neg_one_of_neg h]
      · rw [h] at h3; exact absurd h3 (by decide)
      · rw [Int.sign_eq_one_of_pos h] at h3; omega
    · rw [if_neg c2]
      exact ⟨0, _, _, rfl, rfl, .inr (.inl rfl)⟩
theorem uok {u : Bool} {s c : Int} (h : u = false ∨ s = 0 ∨ s = c) : u = false ∨ (u = true ∧ (s == 0) = true) ∨ (u = true ∧ (s == 0) = false ∧ (s == c) = true) := by
  cases u with
  | false => exact .inl rfl
  | true =>
    rcases h with h | h | h
    · cases h
    · exact .inr (.inl ⟨rfl, by simp [h]⟩)
    · cases hz : (s == 0) with
      | true => exact .inr (.inl ⟨rfl, rfl⟩)
      | false => exact .inr (.inr ⟨rfl, rfl, by simp [h]⟩)
end Gb
namespace Go.Proofs.YtolehnkoocnenaaGreatDoor.S
open Go Go.Sx Go.RowKit Gb Go.Shelf
theorem apin_q (n : Nat) (h1 : 1 ≤ n) (h2 : n ≤ 6) : Meets Tryz.prog Gd 12 [iP (n : Int)] (.tup [ivQ (piQ n), iP 0]) := by
  have := api_n (n : Int) (by omega)
  rwa [apiP_q h1 (by omega)] at this
theorem aarcn_q (x : Rat) (n : Nat) (hx : Sz 2 x) (hu : inU x = true) (h1 : 1 ≤ n) (h2 : n ≤ 6) : Meets Tryz.prog Gd 14 [rtP x, iP (n : Int)] (.tup [ivQ (arcQ x n), iP 0]) := by
  refine meets_of_vc (Y := {}) (N := 17) (rs := [.cell 4 25, .tmp 5]) mix tk gd Tryz.func14 rfl (by kernel_rfl) rfl rfl (by simp) (by kernel_rfl) ?_
  have K := aask_n (rT x) n (by have := rT_len hx; omega)
  rw [askE_0 hu h1 (by omega)] at K
  have P := aarc_q x n hx h2
  generalize arcQ x n = r at P ⊢
  rw [ivQ_pair] at P ⊢
  unfold rtP at P ⊢
  generalize rT x = l at *
  simp (maxSteps := 10000000) only [↓sx, sx, ↓ty, ↓reduceIte, Nat.reduceEqDiff, Nat.reduceBeqDiff, Nat.reduceAdd, Nat.reduceLeDiff, Nat.reduceLT, Nat.reduceMul, Nat.reduceSub, Int.reduceEq, Int.reduceBNe, Int.reduceBEq, ne_eq, not_false_eq_true, pc, ls, bs, and_true, true_and, and_self, Nat.reduceAdd, Nat.le_refl, leafP, pi]
  refine CallT.mk (t := ⟨⟩) K ?_
  simp (maxSteps := 10000000) only [↓sx, sx, ↓ty, ↓reduceIte, Nat.reduceEqDiff, Nat.reduceBeqDiff, Nat.reduceAdd, Nat.reduceLeDiff, Nat.reduceLT, Nat.reduceMul, Nat.reduceSub, Int.reduceEq, Int.reduceBNe, Int.reduceBEq, ne_eq, not_false_eq_true, pc, ls, bs, and_true, true_and, and_self, Nat.reduceAdd, Nat.le_refl, leafP, pi]
  refine CallT.mk (t := ⟨⟩) P ?_
  simp (maxSteps := 10000000) only [↓sx, sx, ↓ty, ↓reduceIte, Nat.reduceEqDiff, Nat.reduceBeqDiff, Nat.reduceAdd, Nat.reduceLeDiff, Nat.reduceLT, Nat.reduceMul, Nat.reduceSub, Int.reduceEq, Int.reduceBNe, Int.reduceBEq, ne_eq, not_false_eq_true, pc, ls, bs, and_true, true_and, and_self, Nat.reduceAdd, Nat.le_refl, leafP, pi]
theorem adegn_q (x : Rat) (n : Nat) (hx : Sz 2 x) (hu : inU x = true) (h1 : 1 ≤ n) (h2 : n ≤ 6) : Meets Tryz.prog Gd 16 [rtP x, iP (n : Int)] (.tup [ivQ (degQ x n), iP 0]) := by
  refine meets_of_vc (Y := {}) (N := 17) (rs := [.cell 4 25, .tmp 5]) mix tk gd Tryz.func16 rfl (by kernel_rfl) rfl rfl (by simp) (by kernel_rfl) ?_
  have K := aask_n (rT x) n (by have := rT_len hx; omega)
  rw [askE_0 hu h1 (by omega)] at K
  have P := adeg_q x n hx h1 h2
  generalize degQ x n = r at P ⊢
  rw [ivQ_pair] at P ⊢
  unfold rtP at P ⊢
  generalize rT x = l at *
  simp (maxSteps := 10000000) only [↓sx, sx, ↓ty, ↓reduceIte, Nat.reduceEqDiff, Nat.reduceBeqDiff, Nat.reduceAdd, Nat.reduceLeDiff, Nat.reduceLT, Nat.reduceMul, Nat.reduceSub, Int.reduceEq, Int.reduceBNe, Int.reduceBEq, ne_eq, not_false_eq_true, pc, ls, bs, and_true, true_and, and_self, Nat.reduceAdd, Nat.le_refl, leafP, pi]
  refine CallT.mk (t := ⟨⟩) K ?_
  simp (maxSteps := 10000000) only [↓sx, sx, ↓ty, ↓reduceIte, Nat.reduceEqDiff, Nat.reduceBeqDiff, Nat.reduceAdd, Nat.reduceLeDiff, Nat.reduceLT, Nat.reduceMul, Nat.reduceSub, Int.reduceEq, Int.reduceBNe, Int.reduceBEq, ne_eq, not_false_eq_true, pc, ls, bs, and_true, true_and, and_self, Nat.reduceAdd, Nat.le_refl, leafP, pi]
  refine CallT.mk (t := ⟨⟩) P ?_
  simp (maxSteps := 10000000) only [↓sx, sx, ↓ty, ↓reduceIte, Nat.reduceEqDiff, Nat.reduceBeqDiff, Nat.reduceAdd, Nat.reduceLeDiff, Nat.reduceLT, Nat.reduceMul, Nat.reduceSub, Int.reduceEq, Int.reduceBNe, Int.reduceBEq, ne_eq, not_false_eq_true, pc, ls, bs, and_true, true_and, and_self, Nat.reduceAdd, Nat.le_refl, leafP, pi]
theorem meet_q {p q : Rat × Rat} (h : wi p q) (sp : SzI 700 p) (sq : SzI 700 q) : Meets Tryz.prog Gd 21 [ivQ p, ivQ q] (.tup [ivQ q, .val (.bool true)]) := by
  have := imeet_n (rT p.1) (rT p.2) (rT q.1) (rT q.2) (by have := rT_len sp.1; omega) (by have := rT_len sp.2; omega) (by have := rT_len sq.1; omega) (by have := rT_len sq.2; omega)
  rwa [meet_wi h] at this
set_option maxRecDepth 100000 in
set_option maxHeartbeats 16000000 in
theorem tightens6_n (x : List UInt8) (n : Int) (hn0 : 0 ≤ n) (hn1 : n ≤ 255) : Meets Tryz.prog Gd 5 [strP x, .val (.int .u8 n)] (.val (.bool true)) := by
  refine meets_of_vc (Y := {}) (N := 95) (rs := [.tmp 4]) mix tk gd Tryz.func5 rfl (by kernel_rfl) rfl rfl (by simp) (by kernel_rfl) ?_
  simp (maxSteps := 10000000) only [↓sx, sx, ↓ty, ↓reduceIte, Nat.reduceEqDiff, Nat.reduceBeqDiff, Nat.reduceAdd, Nat.reduceLeDiff, Nat.reduceLT, Nat.reduceMul, Nat.reduceSub, Int.reduceEq, Int.reduceBNe, Int.reduceBEq, ne_eq, not_false_eq_true, pc, ls, bs, and_true, true_and, and_self, Nat.reduceAdd, Nat.le_refl, leafP]
  refine CallT.mk (t := ⟨⟩) awake6_n ?_
  by_cases hx : x.length ≤ 9
  · have d1 : decide ((x.length : Int) > 9) = false := decide_eq_false (by omega)
    have V := avalid_n x (by omega)
    simp (maxSteps := 10000000) only [↓sx, sx, ↓ty, ↓reduceIte, Nat.reduceEqDiff, Nat.reduceBeqDiff, Nat.reduceAdd, Nat.reduceLeDiff, Nat.reduceLT, Nat.reduceMul, Nat.reduceSub, Int.reduceEq, Int.reduceBNe, Int.reduceBEq, ne_eq, not_false_eq_true, pc, ls, bs, and_true, true_and, and_self, Nat.reduceAdd, Nat.le_refl, leafP, d1]
    refine CallT.mk (t := ⟨⟩) V ?_
    cases hv : (isRat x && inU (ratOf x)) with
    | false =>
      simp (maxSteps := 10000000) only [↓sx, sx, ↓ty, ↓reduceIte, Nat.reduceEqDiff, Nat.reduceBeqDiff, Nat.reduceAdd, Nat.reduceLeDiff, Nat.reduceLT, Nat.reduceMul, Nat.reduceSub, Int.reduceEq, Int.reduceBNe, Int.reduceBEq, ne_eq, not_false_eq_true, pc, ls, bs, and_true, true_and, and_self, Nat.reduceAdd, Nat.le_refl, leafP]
      refine CallT.mk (t := ⟨⟩) awake6_n ?_
      simp (maxSteps := 10000000) only [↓sx, sx, ↓ty, ↓reduceIte, Nat.reduceEqDiff, Nat.reduceBeqDiff, Nat.reduceAdd, Nat.reduceLeDiff, Nat.reduceLT, Nat.reduceMul, Nat.reduceSub, Int.reduceEq, Int.reduceBNe, Int.reduceBEq, ne_eq, not_false_eq_true, pc, ls, bs, and_true, true_and, and_self, Nat.reduceAdd, Nat.le_refl, leafP]
    | true =>
      obtain ⟨hr, hu⟩ := and_split hv
      have zx : Sz 2 (ratOf x) := Sz.of hr (k := 1) (by omega)
      rw [← rtP_of hr]
      generalize ratOf x = y at *
      obtain ⟨K, hK⟩ : ∃ K : Nat, (K : Int) = 1 + n % 4 := ⟨(1 + n % 4).toNat, by omega⟩
      have k1 : 1 ≤ K := by omega
      have k2 : K ≤ 4 := by omega
      have cv : IntKind.i64.wrap n = n := i64_id (by omega) (by omega)
      have tm : Int.tmod n 4 = n % 4 := tmodp hn0
      have wd : IntKind.i64.wrap (1 + n % 4) = (K : Int) := by rw [← hK]; exact i64_id (by omega) (by omega)
      have wd2 : IntKind.i64.wrap ((K : Int) + 1) = ((K + 1 : Nat) : Int) := i64_id (by omega) (by omega)
      have P1 := apin_q K k1 (by omega)
      have P2 := apin_q (K + 1) (by omega) (by omega)
      have A1 := aarcn_q y K zx hu k1 (by omega)
      have A2 := aarcn_q y (K + 1) zx hu (by omega) (by omega)
      have M1 := meet_q (pi_in K) ((piQ_sz K (by omega)).mono (by omega)) ((piQ_sz (K + 1) (by omega)).mono (by omega))
      have M2 := meet_q (arc_in hu K) ((arcQ_sz zx K (by omega)).mono (by omega)) ((arcQ_sz zx (K + 1) (by omega)).mono (by omega))
      generalize piQ (K + 1) = p2 at *
      generalize piQ K = p1 at *
      generalize arcQ y (K + 1) = a2 at *
      generalize arcQ y K = a1 at *
      rw [ivQ_pair] at P1 P2 A1 A2
      rw [ivQ_pair p1, ivQ_pair p2] at M1
      rw [ivQ_pair a1, ivQ_pair a2] at M2
      simp (maxSteps := 10000000) only [↓sx, sx, ↓ty, ↓reduceIte, Nat.reduceEqDiff, Nat.reduceBeqDiff, Nat.reduceAdd, Nat.reduceLeDiff, Nat.reduceLT, Nat.reduceMul, Nat.reduceSub, Int.reduceEq, Int.reduceBNe, Int.reduceBEq, ne_eq, not_false_eq_true, pc, ls, bs, and_true, true_and, and_self, Nat.reduceAdd, Nat.le_refl, leafP, pi, cv, tm, wd]
      refine CallT.mk (t := ⟨⟩) P1 ?_
      simp (maxSteps := 10000000) only [↓sx, sx, ↓ty, ↓reduceIte, Nat.reduceEqDiff, Nat.reduceBeqDiff, Nat.reduceAdd, Nat.reduceLeDiff, Nat.reduceLT, Nat.reduceMul, Nat.reduceSub, Int.reduceEq, Int.reduceBNe, Int.reduceBEq, ne_eq, not_false_eq_true, pc, ls, bs, and_true, true_and, and_self, Nat.reduceAdd, Nat.le_refl, leafP, pi, cv, tm, wd, wd2]
      refine CallT.mk (t := ⟨⟩) P2 ?_
      simp (maxSteps := 10000000) only [↓sx, sx, ↓ty, ↓reduceIte, Nat.reduceEqDiff, Nat.reduceBeqDiff, Nat.reduceAdd, Nat.reduceLeDiff, Nat.reduceLT, Nat.reduceMul, Nat.reduceSub, Int.reduceEq, Int.reduceBNe, Int.reduceBEq, ne_eq, not_false_eq_true, pc, ls, bs, and_true, true_and, and_self, Nat.reduceAdd, Nat.le_refl, leafP, pi]
      refine CallT.mk (t := ⟨⟩) A1 ?_
      simp (maxSteps := 10000000) only [↓sx, sx, ↓ty, ↓reduceIte, Nat.reduceEqDiff, Nat.reduceBeqDiff, Nat.reduceAdd, Nat.reduceLeDiff, Nat.reduceLT, Nat.reduceMul, Nat.reduceSub, Int.reduceEq, Int.reduceBNe, Int.reduceBEq, ne_eq, not_false_eq_true, pc, ls, bs, and_true, true_and, and_self, Nat.reduceAdd, Nat.le_refl, leafP, pi, cv, tm, wd, wd2]
      refine CallT.mk (t := ⟨⟩) A2 ?_
      simp (maxSteps := 10000000) only [↓sx, sx, ↓ty, ↓reduceIte, Nat.reduceEqDiff, Nat.reduceBeqDiff, Nat.reduceAdd, Nat.reduceLeDiff, Nat.reduceLT, Nat.reduceMul, Nat.reduceSub, Int.reduceEq, Int.reduceBNe, Int.reduceBEq, ne_eq, not_false_eq_true, pc, ls, bs, and_true, true_and, and_self, Nat.reduceAdd, Nat.le_refl, leafP, pi]
      refine CallT.mk (t := ⟨⟩) M1 ?_
      simp (maxSteps := 10000000) only [↓sx, sx, ↓ty, ↓reduceIte, Nat.reduceEqDiff, Nat.reduceBeqDiff, Nat.reduceAdd, Nat.reduceLeDiff, Nat.reduceLT, Nat.reduceMul, Nat.reduceSub, Int.reduceEq, Int.reduceBNe, Int.reduceBEq, ne_eq, not_false_eq_true, pc, ls, bs, and_true, true_and, and_self, Nat.reduceAdd, Nat.le_refl, leafP, pi]
      refine CallT.mk (t := ⟨⟩) M2 ?_
      simp (maxSteps := 10000000) only [↓sx, sx, ↓ty, ↓reduceIte, Nat.reduceEqDiff, Nat.reduceBeqDiff, Nat.reduceAdd, Nat.reduceLeDiff, Nat.reduceLT, Nat.reduceMul, Nat.reduceSub, Int.reduceEq, Int.reduceBNe, Int.reduceBEq, ne_eq, not_false_eq_true, pc, ls, bs, and_true, true_and, and_self, Nat.reduceAdd, Nat.le_refl, leafP, pi, la, ag, beq_self_eq_true, w4, Int.reduceAdd]
  · have d1 : decide ((x.length : Int) > 9) = true := decide_eq_true (by omega)
    simp (maxSteps := 10000000) only [↓sx, sx, ↓ty, ↓reduceIte, Nat.reduceEqDiff, Nat.reduceBeqDiff, Nat.reduceAdd, Nat.reduceLeDiff, Nat.reduceLT, Nat.reduceMul, Nat.reduceSub, Int.reduceEq, Int.reduceBNe, Int.reduceBEq, ne_eq, not_false_eq_true, pc, ls, bs, and_true, true_and, and_self, Nat.reduceAdd, Nat.le_refl, leafP, d1]
    refine CallT.mk (t := ⟨⟩) awake6_n ?_
    simp (maxSteps := 10000000) only [↓sx, sx, ↓ty, ↓reduceIte, Nat.reduceEqDiff, Nat.reduceBeqDiff, Nat.reduceAdd, Nat.reduceLeDiff, Nat.reduceLT, Nat.reduceMul, Nat.reduceSub, Int.reduceEq, Int.reduceBNe, Int.reduceBEq, ne_eq, not_false_eq_true, pc, ls, bs, and_true, true_and, and_self, Nat.reduceAdd, Nat.le_refl, leafP]
theorem tightens6_law (xs : List PV) (h : FitA [.str, .int .u8] xs) : Meets Tryz.prog Gd 5 xs (.val (.bool true)) := by
  obtain ⟨_, _, rfl, h1, h⟩ := fita_cons h
  obtain ⟨_, _, rfl, h2, h⟩ := fita_cons h
  obtain rfl := fita_nil h
  obtain ⟨a, rfl, _⟩ := fit_str h1
  obtain ⟨n, rfl, hn⟩ := fit_int h2
  have := bounds_u8 hn
  exact tightens6_n a n (by omega) (by omega)
set_option maxRecDepth 100000 in
set_option maxHeartbeats 16000000 in
theorem order6_n (s t : List UInt8) (n : Int) (hn0 : 0 ≤ n) (hn1 : n ≤ 255) : Meets Tryz.prog Gd 10 [strP s, strP t, .val (.int .u8 n)] (.val (.bool true)) := by
  refine meets_of_vc (Y := {}) (N := 138) (rs := [.tmp 6]) mix tk gd Tryz.func10 rfl (by kernel_rfl) rfl rfl (by simp) (by kernel_rfl) ?_
  simp (maxSteps := 10000000) only [↓sx, sx, ↓ty, ↓reduceIte, Nat.reduceEqDiff, Nat.reduceBeqDiff, Nat.reduceAdd, Nat.reduceLeDiff, Nat.reduceLT, Nat.reduceMul, Nat.reduceSub, Int.reduceEq, Int.reduceBNe, Int.reduceBEq, ne_eq, not_false_eq_true, pc, ls, bs, and_true, true_and, and_self, Nat.reduceAdd, Nat.le_refl, leafP]
  refine CallT.mk (t := ⟨⟩) awake6_n ?_
  by_cases hs : s.length ≤ 9
  · have d1 : decide ((s.length : Int) > 9) = false := decide_eq_false (by omega)
    by_cases ht : t.length ≤ 9
    · have d2 : decide ((t.length : Int) > 9) = false := decide_eq_false (by omega)
      have V := avalid_n s (by omega)
      have V2 := avalid_n t (by omega)
      simp (maxSteps := 10000000) only [↓sx, sx, ↓ty, ↓reduceIte, Nat.reduceEqDiff, Nat.reduceBeqDiff, Nat.reduceAdd, Nat.reduceLeDiff, Nat.reduceLT, Nat.reduceMul, Nat.reduceSub, Int.reduceEq, Int.reduceBNe, Int.reduceBEq, ne_eq, not_false_eq_true, pc, ls, bs, and_true, true_and, and_self, Nat.reduceAdd, Nat.le_refl, leafP, d1, d2]
      refine CallT.mk (t := ⟨⟩) V ?_
      cases hv : (isRat s && inU (ratOf s)) with
      | false =>
        simp (maxSteps := 10000000) only [↓sx, sx, ↓ty, ↓reduceIte, Nat.reduceEqDiff, Nat.reduceBeqDiff, Nat.reduceAdd, Nat.reduceLeDiff, Nat.reduceLT, Nat.reduceMul, Nat.reduceSub, Int.reduceEq, Int.reduceBNe, Int.reduceBEq, ne_eq, not_false_eq_true, pc, ls, bs, and_true, true_and, and_self, Nat.reduceAdd, Nat.le_refl, leafP]
        refine CallT.mk (t := ⟨⟩) awake6_n ?_
        simp (maxSteps := 10000000) only [↓sx, sx, ↓ty, ↓reduceIte, Nat.reduceEqDiff, Nat.reduceBeqDiff, Nat.reduceAdd, Nat.reduceLeDiff, Nat.reduceLT, Nat.reduceMul, Nat.reduceSub, Int.reduceEq, Int.reduceBNe, Int.reduceBEq, ne_eq, not_false_eq_true, pc, ls, bs, and_true, true_and, and_self, Nat.reduceAdd, Nat.le_refl, leafP]
      | true =>
        simp (maxSteps := 10000000) only [↓sx, sx, ↓ty, ↓reduceIte, Nat.reduceEqDiff, Nat.reduceBeqDiff, Nat.reduceAdd, Nat.reduceLeDiff, Nat.reduceLT, Nat.reduceMul, Nat.reduceSub, Int.reduceEq, Int.reduceBNe, Int.reduceBEq, ne_eq, not_false_eq_true, pc, ls, bs, and_true, true_and, and_self, Nat.reduceAdd, Nat.le_refl, leafP]
        refine CallT.mk (t := ⟨⟩) V2 ?_
        cases hv2 : (isRat t && inU (ratOf t)) with
        | false =>
          simp (maxSteps := 10000000) only [↓sx, sx, ↓ty, ↓reduceIte, Nat.reduceEqDiff, Nat.reduceBeqDiff, Nat.reduceAdd, Nat.reduceLeDiff, Nat.reduceLT, Nat.reduceMul, Nat.reduceSub, Int.reduceEq, Int.reduceBNe, Int.reduceBEq, ne_eq, not_false_eq_true, pc, ls, bs, and_true, true_and, and_self, Nat.reduceAdd, Nat.le_refl, leafP]
          refine CallT.mk (t := ⟨⟩) awake6_n ?_
          simp (maxSteps := 10000000) only [↓sx, sx, ↓ty, ↓reduceIte, Nat.reduceEqDiff, Nat.reduceBeqDiff, Nat.reduceAdd, Nat.reduceLeDiff, Nat.reduceLT, Nat.reduceMul, Nat.reduceSub, Int.reduceEq, Int.reduceBNe, Int.reduceBEq, ne_eq, not_false_eq_true, pc, ls, bs, and_true, true_and, and_self, Nat.reduceAdd, Nat.le_refl, leafP]
        | true =>
          obtain ⟨hr, hu⟩ := and_split hv
          obtain ⟨hr2, hu2⟩ := and_split hv2
          have zx : Sz 2 (ratOf s) := Sz.of hr (k := 1) (by omega)
          have zy : Sz 2 (ratOf t) := Sz.of hr2 (k := 1) (by omega)
          clear V V2 hv hv2
          rw [← rtP_of hr, ← rtP_of hr2]
          generalize ratOf s = x at *
          generalize ratOf t = y at *
          obtain ⟨K, hK⟩ : ∃ K : Nat, (K : Int) = 1 + n % 4 := ⟨(1 + n % 4).toNat, by omega⟩
          have k1 : 1 ≤ K := by omega
          have k2 : K ≤ 4 := by omega
          have cv : IntKind.i64.wrap n = n := i64_id (by omega) (by omega)
          have tm : Int.tmod n 4 = n % 4 := tmodp hn0
          have wd : IntKind.i64.wrap (1 + n % 4) = (K : Int) := by rw [← hK]; exact i64_id (by omega) (by omega)
          have D1 := adegn_q x K zx hu k1 (by omega)
          have D2 := adegn_q y K zy hu2 k1 (by omega)
          have C := rcmp_q x y (zx.mono (by omega)) (zy.mono (by omega))
          have zp := degQ_sz4 zx K k2
          have zq := degQ_sz4 zy K k2
          have S := isub2_n (rT (degQ x K).1) (rT (degQ x K).2) (rT (degQ y K).1) (rT (degQ y K).2) (by have := rT_len zp.1; omega) (by have := rT_len zp.2; omega) (by have := rT_len zq.1; omega) (by have := rT_len zq.2; omega)
          unfold icorP at S
          have lp := degQ_le x K
          have lq := degQ_le y K
          rw [isIv_rT lp, isIv_rT lq, ratOf_rT, ratOf_rT, ratOf_rT, ratOf_rT, corQ_sub lp lq, if_pos (show (true && true) = true from rfl)] at S
          have zm1 := zp.1.subT zq.2
          have zm2 := zp.2.subT zq.1
          have G := isign2_n (rT ((degQ x K).1 - (degQ y K).2)) (rT ((degQ x K).2 - (degQ y K).1)) (by have := rT_len zm1; omega) (by have := rT_len zm2; omega)
          obtain ⟨sg, c, u, hG, hc, hok⟩ := sign_law (a := (degQ x K).1 - (degQ y K).2) (b := (degQ x K).2 - (degQ y K).1) (x := x) (y := y) (by grind) (fun h => by have := deg_ord hu hu2 h K k1 k2; grind) (fun h => by have := deg_ord hu2 hu h K k1 k2; grind)
          rw [hG] at G
          rw [← hc] at C
          have hok := uok hok
          obtain ⟨⟨g1, g2⟩, ⟨g3, g4⟩, g5, g6⟩ := deg_at K k1 k2
          have zz := degQ_sz (x := 0) (Sz0 2 (by omega)) K (by omega)
          have zo := degQ_sz (x := 1) (c1.2.mono (by omega)) K (by omega)
          have zw := degQ_sz (x := -1) (cm1.2.mono (by omega)) K (by omega)
          have E0 := adegn_q 0 K (Sz0 2 (by omega)) (by decide +kernel) k1 (by omega)
          have E1 := adegn_q 1 K (c1.2.mono (by omega)) (by decide +kernel) k1 (by omega)
          have E2 := adegn_q (-1) K (cm1.2.mono (by omega)) (by decide +kernel) k1 (by omega)
          have cm90 := cst [45, 57, 48] (-90) (by decide +kernel)
          have H0 := has_q (zz.mono (by omega)) (Sz0 1900 (by omega)) g1 g2
          have H1 := has_q (zo.mono (by omega)) (c90.2.mono (by omega)) g3 g4
          have H2 := has_q (zw.mono (by omega)) (cm90.2.mono (by simp)) g5 g6
          rw [c0.1] at E0 H0
          rw [c1.1] at E1
          rw [c90.1] at H1
          rw [cm1.1] at E2
          rw [cm90.1] at H2
          clear zz zo zw g1 g2 g3 g4 g5 g6 zm1 zm2 lp lq zp zq hG hc cm90
          rw [ivQ_pair] at D1 D2 E0 E1 E2 H0 H1 H2 S
          generalize degQ x K = p at *
          generalize degQ y K = q at *
          generalize p.1 - q.2 = m1 at *
          generalize p.2 - q.1 = m2 at *
          generalize degQ 0 K = o0 at *
          generalize degQ 1 K = o1 at *
          generalize degQ (-1) K = o2 at *
          simp (maxSteps := 10000000) only [↓sx, sx, ↓ty, ↓reduceIte, Nat.reduceEqDiff, Nat.reduceBeqDiff, Nat.reduceAdd, Nat.reduceLeDiff, Nat.reduceLT, Nat.reduceMul, Nat.reduceSub, Int.reduceEq, Int.reduceBNe, Int.reduceBEq, ne_eq, not_false_eq_true, pc, ls, bs, and_true, true_and, and_self, Nat.reduceAdd, Nat.le_refl, leafP, pi, cv, tm, wd]
          refine CallT.mk (t := ⟨⟩) D1 ?_
          simp (maxSteps := 10000000) only [↓sx, sx, ↓ty, ↓reduceIte, Nat.reduceEqDiff, Nat.reduceBeqDiff, Nat.reduceAdd, Nat.reduceLeDiff, Nat.reduceLT, Nat.reduceMul, Nat.reduceSub, Int.reduceEq, Int.reduceBNe, Int.reduceBEq, ne_eq, not_false_eq_true, pc, ls, bs, and_true, true_and, and_self, Nat.reduceAdd, Nat.le_refl, leafP, pi, cv, tm, wd]
          refine CallT.mk (t := ⟨⟩) D2 ?_
          simp (maxSteps := 10000000) only [↓sx, sx, ↓ty, ↓reduceIte, Nat.reduceEqDiff, Nat.reduceBeqDiff, Nat.reduceAdd, Nat.reduceLeDiff, Nat.reduceLT, Nat.reduceMul, Nat.reduceSub, Int.reduceEq, Int.reduceBNe, Int.reduceBEq, ne_eq, not_false_eq_true, pc, ls, bs, and_true, true_and, and_self, Nat.reduceAdd, Nat.le_refl, leafP, pi]
          refine CallT.mk (t := ⟨⟩) C ?_
          simp (maxSteps := 10000000) only [↓sx, sx, ↓ty, ↓reduceIte, Nat.reduceEqDiff, Nat.reduceBeqDiff, Nat.reduceAdd, Nat.reduceLeDiff, Nat.reduceLT, Nat.reduceMul, Nat.reduceSub, Int.reduceEq, Int.reduceBNe, Int.reduceBEq, ne_eq, not_false_eq_true, pc, ls, bs, and_true, true_and, and_self, Nat.reduceAdd, Nat.le_refl, leafP, pi]
          refine CallT.mk (t := ⟨⟩) S ?_
          simp (maxSteps := 10000000) only [↓sx, sx, ↓ty, ↓reduceIte, Nat.reduceEqDiff, Nat.reduceBeqDiff, Nat.reduceAdd, Nat.reduceLeDiff, Nat.reduceLT, Nat.reduceMul, Nat.reduceSub, Int.reduceEq, Int.reduceBNe, Int.reduceBEq, ne_eq, not_false_eq_true, pc, ls, bs, and_true, true_and, and_self, Nat.reduceAdd, Nat.le_refl, leafP, pi]
          refine CallT.mk (t := ⟨⟩) G ?_
          simp (maxSteps := 10000000) only [↓sx, sx, ↓ty, ↓reduceIte, Nat.reduceEqDiff, Nat.reduceBeqDiff, Nat.reduceAdd, Nat.reduceLeDiff, Nat.reduceLT, Nat.reduceMul, Nat.reduceSub, Int.reduceEq, Int.reduceBNe, Int.reduceBEq, ne_eq, not_false_eq_true, pc, ls, bs, and_true, true_and, and_self, Nat.reduceAdd, Nat.le_refl, leafP, pi, cv, tm, wd]
          refine CallT.mk (t := ⟨⟩) E0 ?_
          simp (maxSteps := 10000000) only [↓sx, sx, ↓ty, ↓reduceIte, Nat.reduceEqDiff, Nat.reduceBeqDiff, Nat.reduceAdd, Nat.reduceLeDiff, Nat.reduceLT, Nat.reduceMul, Nat.reduceSub, Int.reduceEq, Int.reduceBNe, Int.reduceBEq, ne_eq, not_false_eq_true, pc, ls, bs, and_true, true_and, and_self, Nat.reduceAdd, Nat.le_refl, leafP, pi, cv, tm, wd]
          refine CallT.mk (t := ⟨⟩) E1 ?_
          simp (maxSteps := 10000000) only [↓sx, sx, ↓ty, ↓reduceIte, Nat.reduceEqDiff, Nat.reduceBeqDiff, Nat.reduceAdd, Nat.reduceLeDiff, Nat.reduceLT, Nat.reduceMul, Nat.reduceSub, Int.reduceEq, Int.reduceBNe, Int.reduceBEq, ne_eq, not_false_eq_true, pc, ls, bs, and_true, true_and, and_self, Nat.reduceAdd, Nat.le_refl, leafP, pi, cv, tm, wd]
          refine CallT.mk (t := ⟨⟩) E2 ?_
          rcases hok with h | ⟨h, h2⟩ | ⟨h, h2, h3⟩
          · simp (maxSteps := 10000000) only [↓sx, sx, ↓ty, ↓reduceIte, Nat.reduceEqDiff, Nat.reduceBeqDiff, Nat.reduceAdd, Nat.reduceLeDiff, Nat.reduceLT, Nat.reduceMul, Nat.reduceSub, Int.reduceEq, Int.reduceBNe, Int.reduceBEq, ne_eq, not_false_eq_true, pc, ls, bs, and_true, true_and, and_self, Nat.reduceAdd, Nat.le_refl, leafP, pi, la, ag, beq_self_eq_true, w4, Int.reduceAdd, h]
            refine CallT.mk (t := ⟨⟩) H0 ?_
            simp (maxSteps := 10000000) only [↓sx, sx, ↓ty, ↓reduceIte, Nat.reduceEqDiff, Nat.reduceBeqDiff, Nat.reduceAdd, Nat.reduceLeDiff, Nat.reduceLT, Nat.reduceMul, Nat.reduceSub, Int.reduceEq, Int.reduceBNe, Int.reduceBEq, ne_eq, not_false_eq_true, pc, ls, bs, and_true, true_and, and_self, Nat.reduceAdd, Nat.le_refl, leafP, pi]
            refine CallT.mk (t := ⟨⟩) H1 ?_
            simp (maxSteps := 10000000) only [↓sx, sx, ↓ty, ↓reduceIte, Nat.reduceEqDiff, Nat.reduceBeqDiff, Nat.reduceAdd, Nat.reduceLeDiff, Nat.reduceLT, Nat.reduceMul, Nat.reduceSub, Int.reduceEq, Int.reduceBNe, Int.reduceBEq, ne_eq, not_false_eq_true, pc, ls, bs, and_true, true_and, and_self, Nat.reduceAdd, Nat.le_refl, leafP, pi]
            refine CallT.mk (t := ⟨⟩) H2 ?_
            simp (maxSteps := 10000000) only [↓sx, sx, ↓ty, ↓reduceIte, Nat.reduceEqDiff, Nat.reduceBeqDiff, Nat.reduceAdd, Nat.reduceLeDiff, Nat.reduceLT, Nat.reduceMul, Nat.reduceSub, Int.reduceEq, Int.reduceBNe, Int.reduceBEq, ne_eq, not_false_eq_true, pc, ls, bs, and_true, true_and, and_self, Nat.reduceAdd, Nat.le_refl, leafP, pi]
          · simp (maxSteps := 10000000) only [↓sx, sx, ↓ty, ↓reduceIte, Nat.reduceEqDiff, Nat.reduceBeqDiff, Nat.reduceAdd, Nat.reduceLeDiff, Nat.reduceLT, Nat.reduceMul, Nat.reduceSub, Int.reduceEq, Int.reduceBNe, Int.reduceBEq, ne_eq, not_false_eq_true, pc, ls, bs, and_true, true_and, and_self, Nat.reduceAdd, Nat.le_refl, leafP, pi, la, ag, beq_self_eq_true, w4, Int.reduceAdd, h, h2]
            refine CallT.mk (t := ⟨⟩) H0 ?_
            simp (maxSteps := 10000000) only [↓sx, sx, ↓ty, ↓reduceIte, Nat.reduceEqDiff, Nat.reduceBeqDiff, Nat.reduceAdd, Nat.reduceLeDiff, Nat.reduceLT, Nat.reduceMul, Nat.reduceSub, Int.reduceEq, Int.reduceBNe, Int.reduceBEq, ne_eq, not_false_eq_true, pc, ls, bs, and_true, true_and, and_self, Nat.reduceAdd, Nat.le_refl, leafP, pi]
            refine CallT.mk (t := ⟨⟩) H1 ?_
            simp (maxSteps := 10000000) only [↓sx, sx, ↓ty, ↓reduceIte, Nat.reduceEqDiff, Nat.reduceBeqDiff, Nat.reduceAdd, Nat.reduceLeDiff, Nat.reduceLT, Nat.reduceMul, Nat.reduceSub, Int.reduceEq, Int.reduceBNe, Int.reduceBEq, ne_eq, not_false_eq_true, pc, ls, bs, and_true, true_and, and_self, Nat.reduceAdd, Nat.le_refl, leafP, pi]
            refine CallT.mk (t := ⟨⟩) H2 ?_
            simp (maxSteps := 10000000) only [↓sx, sx, ↓ty, ↓reduceIte, Nat.reduceEqDiff, Nat.reduceBeqDiff, Nat.reduceAdd, Nat.reduceLeDiff, Nat.reduceLT, Nat.reduceMul, Nat.reduceSub, Int.reduceEq, Int.reduceBNe, Int.reduceBEq, ne_eq, not_false_eq_true, pc, ls, bs, and_true, true_and, and_self, Nat.reduceAdd, Nat.le_refl, leafP, pi]
          · simp (maxSteps := 10000000) only [↓sx, sx, ↓ty, ↓reduceIte, Nat.reduceEqDiff, Nat.reduceBeqDiff, Nat.reduceAdd, Nat.reduceLeDiff, Nat.reduceLT, Nat.reduceMul, Nat.reduceSub, Int.reduceEq, Int.reduceBNe, Int.reduceBEq, ne_eq, not_false_eq_true, pc, ls, bs, and_true, true_and, and_self, Nat.reduceAdd, Nat.le_refl, leafP, pi, la, ag, beq_self_eq_true, w4, Int.reduceAdd, h, h2, h3]
            refine CallT.mk (t := ⟨⟩) H0 ?_
            simp (maxSteps := 10000000) only [↓sx, sx, ↓ty, ↓reduceIte, Nat.reduceEqDiff, Nat.reduceBeqDiff, Nat.reduceAdd, Nat.reduceLeDiff, Nat.reduceLT, Nat.reduceMul, Nat.reduceSub, Int.reduceEq, Int.reduceBNe, Int.reduceBEq, ne_eq, not_false_eq_true, pc, ls, bs, and_true, true_and, and_self, Nat.reduceAdd, Nat.le_refl, leafP, pi]
            refine CallT.mk (t := ⟨⟩) H1 ?_
            simp (maxSteps := 10000000) only [↓sx, sx, ↓ty, ↓reduceIte, Nat.reduceEqDiff, Nat.reduceBeqDiff, Nat.reduceAdd, Nat.reduceLeDiff, Nat.reduceLT, Nat.reduceMul, Nat.reduceSub, Int.reduceEq, Int.reduceBNe, Int.reduceBEq, ne_eq, not_false_eq_true, pc, ls, bs, and_true, true_and, and_self, Nat.reduceAdd, Nat.le_refl, leafP, pi]
            refine CallT.mk (t := ⟨⟩) H2 ?_
            simp (maxSteps := 10000000) only [↓sx, sx, ↓ty, ↓reduceIte, Nat.reduceEqDiff, Nat.reduceBeqDiff, Nat.reduceAdd, Nat.reduceLeDiff, Nat.reduceLT, Nat.reduceMul, Nat.reduceSub, Int.reduceEq, Int.reduceBNe, Int.reduceBEq, ne_eq, not_false_eq_true, pc, ls, bs, and_true, true_and, and_self, Nat.reduceAdd, Nat.le_refl, leafP, pi]
    · have d2 : decide ((t.length : Int) > 9) = true := decide_eq_true (by omega)
      simp (maxSteps := 10000000) only [↓sx, sx, ↓ty, ↓reduceIte, Nat.reduceEqDiff, Nat.reduceBeqDiff, Nat.reduceAdd, Nat.reduceLeDiff, Nat.reduceLT, Nat.reduceMul, Nat.reduceSub, Int.reduceEq, Int.reduceBNe, Int.reduceBEq, ne_eq, not_false_eq_true, pc, ls, bs, and_true, true_and, and_self, Nat.reduceAdd, Nat.le_refl, leafP, d1, d2]
      refine CallT.mk (t := ⟨⟩) awake6_n ?_
      simp (maxSteps := 10000000) only [↓sx, sx, ↓ty, ↓reduceIte, Nat.reduceEqDiff, Nat.reduceBeqDiff, Nat.reduceAdd, Nat.reduceLeDiff, Nat.reduceLT, Nat.reduceMul, Nat.reduceSub, Int.reduceEq, Int.reduceBNe, Int.reduceBEq, ne_eq, not_false_eq_true, pc, ls, bs, and_true, true_and, and_self, Nat.reduceAdd, Nat.le_refl, leafP]
  · have d1 : decide ((s.length : Int) > 9) = true := decide_eq_true (by omega)
    simp (maxSteps := 10000000) only [↓sx, sx, ↓ty, ↓reduceIte, Nat.reduceEqDiff, Nat.reduceBeqDiff, Nat.reduceAdd, Nat.reduceLeDiff, Nat.reduceLT, Nat.reduceMul, Nat.reduceSub, Int.reduceEq, Int.reduceBNe, Int.reduceBEq, ne_eq, not_false_eq_true, pc, ls, bs, and_true, true_and, and_self, Nat.reduceAdd, Nat.le_refl, leafP, d1]
    refine CallT.mk (t := ⟨⟩) awake6_n ?_
    simp (maxSteps := 10000000) only [↓sx, sx, ↓ty, ↓reduceIte, Nat.reduceEqDiff, Nat.reduceBeqDiff, Nat.reduceAdd, Nat.reduceLeDiff, Nat.reduceLT, Nat.reduceMul, Nat.reduceSub, Int.reduceEq, Int.reduceBNe, Int.reduceBEq, ne_eq, not_false_eq_true, pc, ls, bs, and_true, true_and, and_self, Nat.reduceAdd, Nat.le_refl, leafP]
theorem order6_law (xs : List PV) (h : FitA [.str, .str, .int .u8] xs) : Meets Tryz.prog Gd 10 xs (.val (.bool true)) := by
  obtain ⟨_, _, rfl, h1, h⟩ := fita_cons h
  obtain ⟨_, _, rfl, h2, h⟩ := fita_cons h
  obtain ⟨_, _, rfl, h3, h⟩ := fita_cons h
  obtain rfl := fita_nil h
  obtain ⟨a, rfl, _⟩ := fit_str h1
  obtain ⟨b, rfl, _⟩ := fit_str h2
  obtain ⟨n, rfl, hn⟩ := fit_int h3
  have := bounds_u8 hn
  exact order6_n a b n (by omega) (by omega)
end Go.Proofs.YtolehnkoocnenaaGreatDoor.S
namespace Gb
open Go Go.RowKit Go.Sx
theorem finE_k (d : List UInt8) (n : Int) {k : Int} (h1 : 0 ≤ k) (h2 : k ≤ 24) : finE d n k = finE d n 0 := by
  unfold finE
  simp only [h1, h2, and_true, true_and, Int.le_refl, show (0 : Int) ≤ 24 by omega]
end Gb
namespace Go.Proofs.YtolehnkoocnenaaGreatDoor.S
open Go Go.Sx Go.RowKit Gb Go.Shelf
set_option maxRecDepth 100000 in
set_option maxHeartbeats 16000000 in
theorem brackets6_n (d : List UInt8) (n k : Int) (hn0 : 0 ≤ n) (hn1 : n ≤ 255) (hk0 : 0 ≤ k) (hk1 : k ≤ 255) : Meets Tryz.prog Gd 6 [strP d, .val (.int .u8 n), .val (.int .u8 k)] (.val (.bool true)) := by
  refine meets_of_vc (Y := {}) (N := 141) (rs := [.tmp 6]) mix tk gd Tryz.func6 rfl (by kernel_rfl) rfl rfl (by simp) (by kernel_rfl) ?_
  simp (maxSteps := 10000000) only [↓sx, sx, ↓ty, ↓reduceIte, Nat.reduceEqDiff, Nat.reduceBeqDiff, Nat.reduceAdd, Nat.reduceLeDiff, Nat.reduceLT, Nat.reduceMul, Nat.reduceSub, Int.reduceEq, Int.reduceBNe, Int.reduceBEq, ne_eq, not_false_eq_true, pc, ls, bs, and_true, true_and, and_self, Nat.reduceAdd, Nat.le_refl, leafP]
  refine CallT.mk (t := ⟨⟩) awake6_n ?_
  by_cases hd : d.length ≤ 9
  · have d1 : decide ((d.length : Int) > 9) = false := decide_eq_false (by omega)
    obtain ⟨T, hT⟩ : ∃ T : Nat, (T : Int) = 1 + n % 3 := ⟨(1 + n % 3).toNat, by omega⟩
    obtain ⟨K, hK⟩ : ∃ K : Nat, (K : Int) = k % 5 := ⟨(k % 5).toNat, by omega⟩
    have t1 : 1 ≤ T := by omega
    have t2 : T ≤ 3 := by omega
    have k2 : K ≤ 4 := by omega
    have cv : IntKind.i64.wrap n = n := i64_id (by omega) (by omega)
    have cv2 : IntKind.i64.wrap k = k := i64_id (by omega) (by omega)
    have tm : Int.tmod n 3 = n % 3 := tmodp hn0
    have tm2 : Int.tmod k 5 = (K : Int) := by rw [tmodp hk0, hK]
    have wd : IntKind.i64.wrap (1 + n % 3) = (T : Int) := by rw [← hT]; exact i64_id (by omega) (by omega)
    have wd2 : IntKind.i64.wrap ((K : Int) + 1) = ((K + 1 : Nat) : Int) := i64_id (by omega) (by omega)
    have F1 := afind_n d (T : Int) (K : Int) hd (by omega)
    have F2 := afind_n d (T : Int) ((K + 1 : Nat) : Int) hd (by omega)
    unfold afindP at F1 F2
    rw [finE_k d T (k := (K : Int)) (by omega) (by omega)] at F1
    rw [finE_k d T (k := ((K + 1 : Nat) : Int)) (by omega) (by omega)] at F2
    by_cases he : finE d (T : Int) 0 = 0
    · rw [he, if_pos rfl, Int.toNat_natCast, Int.toNat_natCast] at F1 F2
      obtain ⟨hr, h1, h2, h90, _, _⟩ := finE_ok he
      have zd : Sz 2 (ratOf d) := Sz.of hr (k := 1) (by omega)
      clear he
      rw [← rtP_of hr] at F1 F2 ⊢
      have hlen : d.length = (rT (ratOf d)).length := by rw [rT_ratOf hr]
      rw [hlen] at d1
      generalize ratOf d = x at *
      clear hlen hr
      have a1 := find_lo x T K (-1, 1)
      have a2 := find_hi x T K (-1, 1)
      have a3 := find_next x T K (-1, 1) (by decide +kernel)
      have a4 := find_le x T K
      obtain ⟨i1, i2⟩ := find_inU x T K
      obtain ⟨j, hj, hg⟩ := find_grid x T K 0 (-1, 1) grid0
      obtain ⟨j2, hj2, hg2⟩ := find_grid x T (K + 1) 0 (-1, 1) grid0
      have z1 := (grid_sz (by omega) hg).1
      have z2 := (grid_sz (by omega) hg2).1
      generalize findL x T (K + 1) (-1, 1) = b at *
      generalize findL x T K (-1, 1) = a at *
      clear hg hg2
      have M := meet_q a3 (z1.mono (by omega)) (z2.mono (by omega))
      have L1 := adegn_q a.1 T z1.1 i1 t1 (by omega)
      have L2 := adegn_q a.2 T z1.2 i2 t1 (by omega)
      have V := ivalid2_n (rT a.1) (rT a.2) (by have := rT_len z1.1; omega) (by have := rT_len z1.2; omega)
      rw [isIv_rT a4] at V
      have s1 := degQ_sz z1.1 T (by omega)
      have s2 := degQ_sz z1.2 T (by omega)
      have C1 := rcmp_q (degQ a.1 T).2 x (s1.2.mono (by omega)) (zd.mono (by omega))
      have C2 := rcmp_q (degQ a.2 T).1 x (s2.1.mono (by omega)) (zd.mono (by omega))
      have q1 : (rT a.1 == [45, 49]) = true ∨ ((rT a.1 == [45, 49]) = false ∧ decide (((degQ a.1 T).2 - x).num.sign ≤ 0) = true) := by
        cases hb : (rT a.1 == [45, 49]) with
        | true => exact .inl rfl
        | false =>
          rcases a1 with h | h
          · rw [h, show rT ((-1 : Rat), (1 : Rat)).1 = [45, 49] from t_m1] at hb; cases hb
          · exact .inr ⟨rfl, decide_eq_true ((le_sign _ _).2 h)⟩
      have q2 : (rT a.2 == [49]) = true ∨ ((rT a.2 == [49]) = false ∧ decide (((degQ a.2 T).1 - x).num.sign > 0) = true) := by
        cases hb : (rT a.2 == [49]) with
        | true => exact .inl rfl
        | false =>
          rcases a2 with h | h
          · rw [h, show rT ((-1 : Rat), (1 : Rat)).2 = [49] from t_p1] at hb; cases hb
          · exact .inr ⟨rfl, decide_eq_true (Int.not_le.1 fun h3 => by have := (le_sign _ _).1 h3; grind)⟩
      clear a1 a2 a3 a4 i1 i2 s1 s2
      generalize degQ a.1 T = p at *
      generalize degQ a.2 T = q at *
      generalize (p.2 - x).num.sign = g1 at *
      generalize (q.1 - x).num.sign = g2 at *
      rw [ivQ_pair] at F1 F2 L1 L2
      rw [ivQ_pair a, ivQ_pair b] at M
      simp (maxSteps := 10000000) only [↓sx, sx, ↓ty, ↓reduceIte, Nat.reduceEqDiff, Nat.reduceBeqDiff, Nat.reduceAdd, Nat.reduceLeDiff, Nat.reduceLT, Nat.reduceMul, Nat.reduceSub, Int.reduceEq, Int.reduceBNe, Int.reduceBEq, ne_eq, not_false_eq_true, pc, ls, bs, and_true, true_and, and_self, Nat.reduceAdd, Nat.le_refl, leafP, pi, d1, cv, cv2, tm, tm2, wd]
      refine CallT.mk (t := ⟨⟩) F1 ?_
      simp (maxSteps := 10000000) only [↓sx, sx, ↓ty, ↓reduceIte, Nat.reduceEqDiff, Nat.reduceBeqDiff, Nat.reduceAdd, Nat.reduceLeDiff, Nat.reduceLT, Nat.reduceMul, Nat.reduceSub, Int.reduceEq, Int.reduceBNe, Int.reduceBEq, ne_eq, not_false_eq_true, pc, ls, bs, and_true, true_and, and_self, Nat.reduceAdd, Nat.le_refl, leafP, pi, cv, cv2, tm, tm2, wd, wd2]
      refine CallT.mk (t := ⟨⟩) F2 ?_
      simp (maxSteps := 10000000) only [↓sx, sx, ↓ty, ↓reduceIte, Nat.reduceEqDiff, Nat.reduceBeqDiff, Nat.reduceAdd, Nat.reduceLeDiff, Nat.reduceLT, Nat.reduceMul, Nat.reduceSub, Int.reduceEq, Int.reduceBNe, Int.reduceBEq, ne_eq, not_false_eq_true, pc, ls, bs, and_true, true_and, and_self, Nat.reduceAdd, Nat.le_refl, leafP, pi, cv, cv2, tm, tm2, wd, wd2]
      refine CallT.mk (t := ⟨⟩) M ?_
      simp (maxSteps := 10000000) only [↓sx, sx, ↓ty, ↓reduceIte, Nat.reduceEqDiff, Nat.reduceBeqDiff, Nat.reduceAdd, Nat.reduceLeDiff, Nat.reduceLT, Nat.reduceMul, Nat.reduceSub, Int.reduceEq, Int.reduceBNe, Int.reduceBEq, ne_eq, not_false_eq_true, pc, ls, bs, and_true, true_and, and_self, Nat.reduceAdd, Nat.le_refl, leafP, pi, cv, cv2, tm, tm2, wd, wd2]
      refine CallT.mk (t := ⟨⟩) L1 ?_
      simp (maxSteps := 10000000) only [↓sx, sx, ↓ty, ↓reduceIte, Nat.reduceEqDiff, Nat.reduceBeqDiff, Nat.reduceAdd, Nat.reduceLeDiff, Nat.reduceLT, Nat.reduceMul, Nat.reduceSub, Int.reduceEq, Int.reduceBNe, Int.reduceBEq, ne_eq, not_false_eq_true, pc, ls, bs, and_true, true_and, and_self, Nat.reduceAdd, Nat.le_refl, leafP, pi, cv, cv2, tm, tm2, wd, wd2]
      refine CallT.mk (t := ⟨⟩) L2 ?_
      simp (maxSteps := 10000000) only [↓sx, sx, ↓ty, ↓reduceIte, Nat.reduceEqDiff, Nat.reduceBeqDiff, Nat.reduceAdd, Nat.reduceLeDiff, Nat.reduceLT, Nat.reduceMul, Nat.reduceSub, Int.reduceEq, Int.reduceBNe, Int.reduceBEq, ne_eq, not_false_eq_true, pc, ls, bs, and_true, true_and, and_self, Nat.reduceAdd, Nat.le_refl, leafP, pi, la, ag, beq_self_eq_true, bne_self_eq_false, w4, Int.reduceAdd]
      refine CallT.mk (t := ⟨⟩) V ?_
      simp (maxSteps := 10000000) only [↓sx, sx, ↓ty, ↓reduceIte, Nat.reduceEqDiff, Nat.reduceBeqDiff, Nat.reduceAdd, Nat.reduceLeDiff, Nat.reduceLT, Nat.reduceMul, Nat.reduceSub, Int.reduceEq, Int.reduceBNe, Int.reduceBEq, ne_eq, not_false_eq_true, pc, ls, bs, and_true, true_and, and_self, Nat.reduceAdd, Nat.le_refl, leafP, pi]
      refine CallT.mk (t := ⟨⟩) C1 ?_
      simp (maxSteps := 10000000) only [↓sx, sx, ↓ty, ↓reduceIte, Nat.reduceEqDiff, Nat.reduceBeqDiff, Nat.reduceAdd, Nat.reduceLeDiff, Nat.reduceLT, Nat.reduceMul, Nat.reduceSub, Int.reduceEq, Int.reduceBNe, Int.reduceBEq, ne_eq, not_false_eq_true, pc, ls, bs, and_true, true_and, and_self, Nat.reduceAdd, Nat.le_refl, leafP, pi]
      refine CallT.mk (t := ⟨⟩) C2 ?_
      rcases q1 with h | ⟨h, h'⟩
      · rcases q2 with h2 | ⟨h2, h2'⟩
        · simp (maxSteps := 10000000) only [↓sx, sx, ↓ty, ↓reduceIte, Nat.reduceEqDiff, Nat.reduceBeqDiff, Nat.reduceAdd, Nat.reduceLeDiff, Nat.reduceLT, Nat.reduceMul, Nat.reduceSub, Int.reduceEq, Int.reduceBNe, Int.reduceBEq, ne_eq, not_false_eq_true, pc, ls, bs, and_true, true_and, and_self, Nat.reduceAdd, Nat.le_refl, leafP, pi, la, ag, ba_beq, beq_self_eq_true, h, h2]
        · simp (maxSteps := 10000000) only [↓sx, sx, ↓ty, ↓reduceIte, Nat.reduceEqDiff, Nat.reduceBeqDiff, Nat.reduceAdd, Nat.reduceLeDiff, Nat.reduceLT, Nat.reduceMul, Nat.reduceSub, Int.reduceEq, Int.reduceBNe, Int.reduceBEq, ne_eq, not_false_eq_true, pc, ls, bs, and_true, true_and, and_self, Nat.reduceAdd, Nat.le_refl, leafP, pi, la, ag, ba_beq, beq_self_eq_true, h, h2, h2']
      · rcases q2 with h2 | ⟨h2, h2'⟩
        · simp (maxSteps := 10000000) only [↓sx, sx, ↓ty, ↓reduceIte, Nat.reduceEqDiff, Nat.reduceBeqDiff, Nat.reduceAdd, Nat.reduceLeDiff, Nat.reduceLT, Nat.reduceMul, Nat.reduceSub, Int.reduceEq, Int.reduceBNe, Int.reduceBEq, ne_eq, not_false_eq_true, pc, ls, bs, and_true, true_and, and_self, Nat.reduceAdd, Nat.le_refl, leafP, pi, la, ag, ba_beq, beq_self_eq_true, h, h', h2]
        · simp (maxSteps := 10000000) only [↓sx, sx, ↓ty, ↓reduceIte, Nat.reduceEqDiff, Nat.reduceBeqDiff, Nat.reduceAdd, Nat.reduceLeDiff, Nat.reduceLT, Nat.reduceMul, Nat.reduceSub, Int.reduceEq, Int.reduceBNe, Int.reduceBEq, ne_eq, not_false_eq_true, pc, ls, bs, and_true, true_and, and_self, Nat.reduceAdd, Nat.le_refl, leafP, pi, la, ag, ba_beq, beq_self_eq_true, h, h', h2, h2']
    · rw [if_neg he] at F1 F2
      have d0 : (finE d (T : Int) 0 != 0) = true := by simp [he]
      generalize finE d (T : Int) 0 = e at *
      simp (maxSteps := 10000000) only [↓sx, sx, ↓ty, ↓reduceIte, Nat.reduceEqDiff, Nat.reduceBeqDiff, Nat.reduceAdd, Nat.reduceLeDiff, Nat.reduceLT, Nat.reduceMul, Nat.reduceSub, Int.reduceEq, Int.reduceBNe, Int.reduceBEq, ne_eq, not_false_eq_true, pc, ls, bs, and_true, true_and, and_self, Nat.reduceAdd, Nat.le_refl, leafP, pi, d1, cv, cv2, tm, tm2, wd]
      refine CallT.mk (t := ⟨⟩) F1 ?_
      simp (maxSteps := 10000000) only [↓sx, sx, ↓ty, ↓reduceIte, Nat.reduceEqDiff, Nat.reduceBeqDiff, Nat.reduceAdd, Nat.reduceLeDiff, Nat.reduceLT, Nat.reduceMul, Nat.reduceSub, Int.reduceEq, Int.reduceBNe, Int.reduceBEq, ne_eq, not_false_eq_true, pc, ls, bs, and_true, true_and, and_self, Nat.reduceAdd, Nat.le_refl, leafP, pi, cv, cv2, tm, tm2, wd, wd2]
      refine CallT.mk (t := ⟨⟩) F2 ?_
      simp (maxSteps := 10000000) only [↓sx, sx, ↓ty, ↓reduceIte, Nat.reduceEqDiff, Nat.reduceBeqDiff, Nat.reduceAdd, Nat.reduceLeDiff, Nat.reduceLT, Nat.reduceMul, Nat.reduceSub, Int.reduceEq, Int.reduceBNe, Int.reduceBEq, ne_eq, not_false_eq_true, pc, ls, bs, and_true, true_and, and_self, Nat.reduceAdd, Nat.le_refl, leafP, pi, la, ag, ba_beq, beq_self_eq_true, d0]
  · have d1 : decide ((d.length : Int) > 9) = true := decide_eq_true (by omega)
    simp (maxSteps := 10000000) only [↓sx, sx, ↓ty, ↓reduceIte, Nat.reduceEqDiff, Nat.reduceBeqDiff, Nat.reduceAdd, Nat.reduceLeDiff, Nat.reduceLT, Nat.reduceMul, Nat.reduceSub, Int.reduceEq, Int.reduceBNe, Int.reduceBEq, ne_eq, not_false_eq_true, pc, ls, bs, and_true, true_and, and_self, Nat.reduceAdd, Nat.le_refl, leafP, d1]
    refine CallT.mk (t := ⟨⟩) awake6_n ?_
    simp (maxSteps := 10000000) only [↓sx, sx, ↓ty, ↓reduceIte, Nat.reduceEqDiff, Nat.reduceBeqDiff, Nat.reduceAdd, Nat.reduceLeDiff, Nat.reduceLT, Nat.reduceMul, Nat.reduceSub, Int.reduceEq, Int.reduceBNe, Int.reduceBEq, ne_eq, not_false_eq_true, pc, ls, bs, and_true, true_and, and_self, Nat.reduceAdd, Nat.le_refl, leafP]
theorem brackets6_law (xs : List PV) (h : FitA [.str, .int .u8, .int .u8] xs) : Meets Tryz.prog Gd 6 xs (.val (.bool true)) := by
  obtain ⟨_, _, rfl, h1, h⟩ := fita_cons h
  obtain ⟨_, _, rfl, h2, h⟩ := fita_cons h
  obtain ⟨_, _, rfl, h3, h⟩ := fita_cons h
  obtain rfl := fita_nil h
  obtain ⟨a, rfl, _⟩ := fit_str h1
  obtain ⟨n, rfl, hn⟩ := fit_int h2
  obtain ⟨k, rfl, hk⟩ := fit_int h3
  have := bounds_u8 hn
  have := bounds_u8 hk
  exact brackets6_n a n k (by omega) (by omega) (by omega) (by omega)
end Go.Proofs.YtolehnkoocnenaaGreatDoor.S
