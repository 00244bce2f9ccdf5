/- A part of a proof; the last text of this claim says of what. -/
import Derived.Test.YtnlabeglboomlaaGreatDoorV1
import Derived.Below
import Derived.Calls
import Derived.Laws.Cells
import Derived.Laws.CopyRow
import Derived.Laws.AppendOwn
import Derived.Maps.AppendAt
import Derived.Laws.Sem
import Derived.WalkKit
set_option linter.unusedVariables false
set_option linter.unusedSimpArgs false
set_option linter.unusedSectionVars false
namespace Go.Sx
open Go Go.RowKit
inductive PV where
  | val (v : Value)
  | agg (cs : List PV)
  | tup (vs : List PV)
  | sl (n : Nat) (cs : List PV)
  | fl (n : Nat) (cs : List PV)
  | ptr (cs : List PV)
  | clo (g : FuncId) (first caps : List PV)
  | mp (l : List (Int × FuncId))
  | unk
instance : Inhabited PV := ⟨.val undef⟩
inductive SV where
  | p (x : PV)
  | box (nm off : Nat)
  | orow (nm : Nat)
  | rowp (nm off : Nat)
  | any
instance : Inhabited SV := ⟨.any⟩
mutual
def RepP (B : Nat → Prop) (w : World) : PV → Value → Prop
  | .val u, v => v = u
  | .agg cs, v => ∃ vs : List Value, v = .agg ⟨vs⟩ ∧ RepL B w cs vs
  | .tup cs, v => ∃ vs : List Value, v = .tuple ⟨vs⟩ ∧ RepL B w cs vs
  | .sl n cs, v => ∃ a c, v = .slice a n c ∧ n ≤ c ∧ (c = 0 ∨ a ≠ none) ∧ (cs = [] ∨ ∃ b o, a = some ⟨b, o, none⟩ ∧ B b ∧ RepC B w cs b o)
  | .fl n cs, v => ∃ a, v = .slice a n n ∧ (n = 0 ∨ a ≠ none) ∧ (cs = [] ∨ ∃ b o, a = some ⟨b, o, none⟩ ∧ B b ∧ RepC B w cs b o)
  | .ptr cs, v => ∃ b o, v = .pointer (some ⟨b, o, none⟩) ∧ B b ∧ RepC B w cs b o
  | .clo g fs cs, v => ∃ us vs : List Value, v = .func (.func g) ⟨us⟩ ⟨vs⟩ ∧ RepL B w fs us ∧ RepL B w cs vs
  | .mp l, v => ∃ r es c, v = .map (some r) ∧ B r ∧ w.heap[r]? = some (.map es c) ∧ es.toList.map (fun e => (e.key, e.val)) = l.map fun x => (Value.int .u8 x.1, Value.func (.func x.2) ⟨[]⟩ ⟨[]⟩)
  | .unk, _ => True
def RepL (B : Nat → Prop) (w : World) : List PV → List Value → Prop
  | [], vs => vs = []
  | c :: cs, vs => ∃ x xs, vs = x :: xs ∧ RepP B w c x ∧ RepL B w cs xs
def RepC (B : Nat → Prop) (w : World) : List PV → Nat → Nat → Prop
  | [], _, _ => True
  | c :: cs, b, o => (∃ x, w.cell? ⟨b, o, none⟩ = some x ∧ RepP B w c x) ∧ RepC B w cs b (o + 1)
end
section mono
variable {B B' : Nat → Prop} {w w' : World} (h : ∀ b, B b → B' b ∧ w'.heap[b]? = w.heap[b]?)
include h
mutual
theorem RepP.mono : ∀ (x : PV) (v : Value), RepP B w x v → RepP B' w' x v
  | .val u, v => fun hv => by simpa only [RepP] using hv
  | .agg cs, v => fun hv => by
    simp only [RepP] at hv ⊢
    obtain ⟨vs, rfl, hr⟩ := hv
    exact ⟨vs, rfl, RepL.mono cs vs hr⟩
  | .tup cs, v => fun hv => by
    simp only [RepP] at hv ⊢
    obtain ⟨vs, rfl, hr⟩ := hv
    exact ⟨vs, rfl, RepL.mono cs vs hr⟩
  | .sl n cs, v => fun hv => by
    simp only [RepP] at hv ⊢
    obtain ⟨a, c, rfl, hc, h0, hr⟩ := hv
    refine ⟨a, c, rfl, hc, h0, ?_⟩
    rcases hr with hr | ⟨b, o, e, hb, hr⟩
    · exact .inl hr
    · exact .inr ⟨b, o, e, (h b hb).1, RepC.mono cs b o hb hr⟩
  | .fl n cs, v => fun hv => by
    simp only [RepP] at hv ⊢
    obtain ⟨a, rfl, h0, hr⟩ := hv
    refine ⟨a, rfl, h0, ?_⟩
    rcases hr with hr | ⟨b, o, e, hb, hr⟩
    · exact .inl hr
    · exact .inr ⟨b, o, e, (h b hb).1, RepC.mono cs b o hb hr⟩
  | .ptr cs, v => fun hv => by
    simp only [RepP] at hv ⊢
    obtain ⟨b, o, e, hb, hr⟩ := hv
    exact ⟨b, o, e, (h b hb).1, RepC.mono cs b o hb hr⟩
  | .clo g fs cs, v => fun hv => by
    simp only [RepP] at hv ⊢
    obtain ⟨us, vs, e, h1, h2⟩ := hv
    exact ⟨us, vs, e, RepL.mono fs us h1, RepL.mono cs vs h2⟩
  | .mp l, v => fun hv => by
    simp only [RepP] at hv ⊢
    obtain ⟨r, es, c, e, hb, h1, h2⟩ := hv
    exact ⟨r, es, c, e, (h r hb).1, ((h r hb).2).trans h1, h2⟩
  | .unk, v => fun hv => by simp only [RepP]
theorem RepL.mono : ∀ (cs : List PV) (vs : List Value), RepL B w cs vs → RepL B' w' cs vs
  | [], vs => fun hv => by simpa only [RepL] using hv
  | c :: cs, vs => fun hv => by
    simp only [RepL] at hv ⊢
    obtain ⟨x, xs, rfl, h1, h2⟩ := hv
    exact ⟨x, xs, rfl, RepP.mono c x h1, RepL.mono cs xs h2⟩
theorem RepC.mono : ∀ (cs : List PV) (b o : Nat), B b → RepC B w cs b o → RepC B' w' cs b o
  | [], _, _ => fun _ _ => by simp only [RepC]
  | c :: cs, b, o => fun hb hv => by
    simp only [RepC] at hv ⊢
    obtain ⟨⟨x, hx, h1⟩, h2⟩ := hv
    exact ⟨⟨x, (World.cell?_of_block (w := w) (a := ⟨b, o, none⟩) (h b hb).2).trans hx, RepP.mono c x h1⟩, RepC.mono cs b (o + 1) hb h2⟩
end
end mono
theorem RepL.length {B : Nat → Prop} {w : World} : ∀ {cs : List PV} {vs : List Value}, RepL B w cs vs → vs.length = cs.length
  | [], vs, h => by simp only [RepL] at h; subst h; rfl
  | c :: cs, vs, h => by
    simp only [RepL] at h
    obtain ⟨x, xs, rfl, _, h2⟩ := h
    simp [RepL.length h2]
theorem RepL.get {B : Nat → Prop} {w : World} : ∀ {cs : List PV} {vs : List Value}, RepL B w cs vs → ∀ (i : Nat) (c : PV), cs[i]? = some c → ∃ v, vs[i]? = some v ∧ RepP B w c v
  | [], vs, h, i, c, hc => by simp at hc
  | c0 :: cs, vs, h, i, c, hc => by
    simp only [RepL] at h
    obtain ⟨x, xs, rfl, h1, h2⟩ := h
    cases i with
    | zero => simp at hc; subst hc; exact ⟨x, rfl, h1⟩
    | succ i => simpa using RepL.get h2 i c (by simpa using hc)
theorem RepL.drop {B : Nat → Prop} {w : World} : ∀ {cs : List PV} {vs : List Value} (n : Nat), RepL B w cs vs → RepL B w (cs.drop n) (vs.drop n)
  | cs, vs, 0, h => h
  | [], vs, n + 1, h => by simp only [RepL] at h; subst h; simp [RepL]
  | c :: cs, vs, n + 1, h => by
    simp only [RepL] at h
    obtain ⟨x, xs, rfl, h1, h2⟩ := h
    simpa using RepL.drop n h2
theorem RepL.take {B : Nat → Prop} {w : World} : ∀ {cs : List PV} {vs : List Value} (n : Nat), RepL B w cs vs → RepL B w (cs.take n) (vs.take n)
  | cs, vs, 0, h => by simp [RepL]
  | [], vs, n + 1, h => by simp only [RepL] at h; subst h; simp [RepL]
  | c :: cs, vs, n + 1, h => by
    simp only [RepL] at h
    obtain ⟨x, xs, rfl, h1, h2⟩ := h
    simp only [List.take_succ_cons, RepL]
    exact ⟨x, _, rfl, h1, RepL.take n h2⟩
theorem RepL.append {B : Nat → Prop} {w : World} : ∀ {cs : List PV} {vs : List Value} {ds : List PV} {us : List Value}, RepL B w cs vs → RepL B w ds us → RepL B w (cs ++ ds) (vs ++ us)
  | [], vs, ds, us, h, k => by simp only [RepL] at h; subst h; simpa using k
  | c :: cs, vs, ds, us, h, k => by
    simp only [RepL] at h
    obtain ⟨x, xs, rfl, h1, h2⟩ := h
    simp only [List.cons_append, RepL]
    exact ⟨x, _, rfl, h1, h2.append k⟩
theorem RepC.drop {B : Nat → Prop} {w : World} : ∀ {cs : List PV} (n : Nat) {b o : Nat}, RepC B w cs b o → RepC B w (cs.drop n) b (o + n)
  | cs, 0, b, o, h => h
  | [], n + 1, b, o, h => by simp [RepC]
  | c :: cs, n + 1, b, o, h => by
    simp only [RepC] at h
    have := RepC.drop n h.2
    rw [List.drop_succ_cons, show o + (n + 1) = o + 1 + n by omega]
    exact this
theorem RepC.take {B : Nat → Prop} {w : World} : ∀ {cs : List PV} (n : Nat) {b o : Nat}, RepC B w cs b o → RepC B w (cs.take n) b o
  | cs, 0, b, o, h => by simp [RepC]
  | [], n + 1, b, o, h => by simp [RepC]
  | c :: cs, n + 1, b, o, h => by
    simp only [RepC] at h
    simp only [List.take_succ_cons, RepC]
    exact ⟨h.1, RepC.take n h.2⟩
theorem RepC.vals {B : Nat → Prop} {w : World} : ∀ {cs : List PV} {b o : Nat}, RepC B w cs b o → ∃ vs, RepL B w cs vs ∧ ∀ j v, vs[j]? = some v → w.cell? ⟨b, o + j, none⟩ = some v
  | [], b, o, h => ⟨[], by simp [RepL], by simp⟩
  | c :: cs, b, o, h => by
    simp only [RepC] at h
    obtain ⟨⟨x, hx, h1⟩, h2⟩ := h
    obtain ⟨vs, h3, h4⟩ := RepC.vals h2
    refine ⟨x :: vs, by simp only [RepL]; exact ⟨x, vs, rfl, h1, h3⟩, ?_⟩
    intro j v hj
    cases j with
    | zero => simp at hj; subst hj; simpa using hx
    | succ j =>
      rw [show o + (j + 1) = o + 1 + j by omega]
      exact h4 j v (by simpa using hj)
theorem RepC.of_vals {B : Nat → Prop} {w : World} : ∀ {cs : List PV} {vs : List Value} {b o : Nat}, RepL B w cs vs → (∀ j v, vs[j]? = some v → w.cell? ⟨b, o + j, none⟩ = some v) → RepC B w cs b o
  | [], vs, b, o, h, k => by simp [RepC]
  | c :: cs, vs, b, o, h, k => by
    simp only [RepL] at h
    obtain ⟨x, xs, rfl, h1, h2⟩ := h
    simp only [RepC]
    refine ⟨⟨x, by simpa using k 0 x rfl, h1⟩, RepC.of_vals h2 ?_⟩
    intro j v hj
    rw [show o + 1 + j = o + (j + 1) by omega]
    exact k (j + 1) v (by simpa using hj)
abbrev Env := Nat → SV
abbrev Hp := Nat → Option (TypeId × List PV)
structure RowE where
  E : TypeId
  sz : Nat
  n : Nat
  cs : List PV
  par : Bool := false
abbrev Rws := Nat → Option RowE
def upd {α : Type} (f : Nat → α) (i : Nat) (x : α) : Nat → α := fun j => if j = i then x else f j
theorem upd_same {α : Type} (f : Nat → α) (i : Nat) (x : α) : upd f i x i = x := by simp [upd]
theorem upd_ne {α : Type} (f : Nat → α) {i j : Nat} (x : α) (h : j ≠ i) : upd f i x j = f j := by simp [upd, h]
theorem upd_comm {α : Type} (f : Nat → α) {i j : Nat} (x y : α) (h : i ≠ j) : upd (upd f i x) j y = upd (upd f j y) i x := by
  funext k
  unfold upd
  by_cases h1 : k = i
  · subst h1; simp [h]
  · by_cases h2 : k = j
    · subst h2; simp [h1]
    · simp [h1, h2]
structure Fr where
  w : World
  B : Nat → Prop
  ov : Value
  ρ : Rws
  rv : Nat → Value
  fx : Nat → Option Nat
  ds : List Deferred
def Fr.ob (ζ : Fr) : Option Nat := ζ.ov.ownBlock
def Bk (ζ : Fr) (own : Nat → Nat) (h : Hp) (w : World) (b : Nat) : Prop := (ζ.B b ∨ ζ.w.heap.size ≤ b) ∧ b < w.heap.size ∧ (∀ nm, h nm ≠ none → own nm ≠ b) ∧ (∀ nm, ζ.ρ nm ≠ none → (ζ.rv nm).ownBlock ≠ some b) ∧ ζ.ob ≠ some b
def RepS (ζ : Fr) (own : Nat → Nat) (h : Hp) (w : World) : SV → Value → Prop
  | .p x, v => RepP (Bk ζ own h w) w x v
  | .box nm off, v => h nm ≠ none ∧ v = .pointer (some ⟨own nm, off, none⟩)
  | .orow nm, v => ζ.ρ nm ≠ none ∧ v = ζ.rv nm
  | .rowp nm off, v => ζ.ρ nm ≠ none ∧ ∃ g, (ζ.rv nm).ownBlock = some g ∧ v = .pointer (some ⟨g, off, none⟩)
  | .any, _ => True
theorem RepS.mono {ζ : Fr} {own own' : Nat → Nat} {h h' : Hp} {w w' : World} (hb : ∀ b, Bk ζ own h w b → Bk ζ own' h' w' b ∧ w'.heap[b]? = w.heap[b]?) (hn : ∀ nm, h nm ≠ none → h' nm ≠ none ∧ own' nm = own nm) :
    ∀ (s : SV) (v : Value), RepS ζ own h w s v → RepS ζ own' h' w' s v
  | .p x, v, hv => RepP.mono hb x v hv
  | .box nm off, v, hv => ⟨(hn nm hv.1).1, by rw [(hn nm hv.1).2]; exact hv.2⟩
  | .orow nm, v, hv => hv
  | .rowp nm off, v, hv => hv
  | .any, v, _ => trivial
structure R (ζ : Fr) (N : Nat) (own : Nat → Nat) (e : Env) (h : Hp) (a : Act) (w : World) : Prop where
  size : a.tmps.size = N
  below : ζ.w.grownBy w ζ.ob
  obl : ∀ g, ζ.ob = some g → g < ζ.w.heap.size
  defs : a.defers = ζ.ds
  fix : ∀ nm b, ζ.fx nm = some b → N ≤ nm ∧ own nm = b
  tmp : ∀ t, RepS ζ own h w (e t) (a.tmps.getD t undef)
  box : ∀ nm T cs, h nm = some (T, cs) → ζ.w.heap.size ≤ own nm ∧ own nm < w.heap.size ∧ ∃ vs : List Value, w.heap[own nm]? = some (.cells ⟨vs⟩ T (0, 0)) ∧ RepL (Bk ζ own h w) w cs vs
  inj : ∀ n m, h n ≠ none → h m ≠ none → own n = own m → n = m
  row : ∀ nm q, ζ.ρ nm = some q → ∃ vs, w.ownsRow 0 q.E q.sz (ζ.rv nm) q.n vs ∧ RepL (Bk ζ own h w) w q.cs vs ∧ if q.par then ζ.rv nm = ζ.ov else ∀ g, (ζ.rv nm).ownBlock = some g → ζ.w.heap.size ≤ g
  rinj : ∀ n m g, ζ.ρ n ≠ none → ζ.ρ m ≠ none → (ζ.rv n).ownBlock = some g → (ζ.rv m).ownBlock = some g → n = m
  rbox : ∀ n m, ζ.ρ n ≠ none → h m ≠ none → (ζ.rv n).ownBlock ≠ some (own m)
theorem grownBy_refl (w : World) (r : Option Nat) : w.grownBy w r := ⟨rfl, rfl, rfl, Nat.le_refl _, fun _ _ _ => rfl⟩
theorem grownBy_below {w w' : World} {n : Nat} (h : Below n w w') (hn : w.heap.size ≤ n) (r : Option Nat) : w.grownBy w' r :=
  ⟨h.os, h.tape, h.output, h.size, fun k hk _ => h.block k (by omega)⟩
theorem below_grownBy {w w' : World} (h : w.grownBy w' none) : Below w.heap.size w w' :=
  ⟨h.os, h.tape, h.output, h.size, fun k hk => h.block k hk (by simp)⟩
theorem grownBy_trans {w0 w w' : World} {r r' : Option Nat} (h : w0.grownBy w r) (h' : w.grownBy w' r') (hr : ∀ k, r' = some k → r = some k ∨ w0.heap.size ≤ k) : w0.grownBy w' r := by
  refine ⟨h'.os.trans h.os, h'.tape.trans h.tape, h'.output.trans h.output, Nat.le_trans h.size h'.size, fun k hk hne => ?_⟩
  refine (h'.block k (Nat.lt_of_lt_of_le hk h.size) ?_).trans (h.block k hk hne)
  intro e
  rcases hr k e.symm with h1 | h1
  · exact hne h1.symm
  · omega
end Go.Sx
