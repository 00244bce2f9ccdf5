/- A part of a proof; the last text of this claim says of what. -/
import Derived.Test.YtnlabeglboomlaaGreatDoorV2
set_option linter.unusedVariables false
set_option linter.unusedSimpArgs false
set_option linter.unusedSectionVars false
namespace Go.Sx
open Go Go.RowKit
def updo (e : Env) : Option Nat → SV → Env
  | some d, v => upd e d v
  | none, _ => e
def dstOk (N : Nat) : Option Nat → Prop
  | some d => d < N
  | none => True
theorem put_tmps_same (a : Act) (d : Nat) (v : Value) (h : d < a.tmps.size) : (a.put (some d) v).tmps.getD d undef = v := by
  simp [Act.put, Array.getD, h]
theorem put_tmps_ne (a : Act) {d t : Nat} (v : Value) (h : t ≠ d) : (a.put (some d) v).tmps.getD t undef = a.tmps.getD t undef := by
  simp only [Act.put, Array.getD_eq_getD_getElem?, Array.getElem?_setIfInBounds]
  rw [if_neg (fun e => h e.symm)]
theorem put_size (a : Act) (d : Option Nat) (v : Value) : (a.put d v).tmps.size = a.tmps.size := by cases d <;> simp [Act.put]
theorem put_defers (a : Act) (d : Option Nat) (v : Value) : (a.put d v).defers = a.defers := by cases d <;> rfl
section
variable {ζ : Fr} {N : Nat} {own own' : Nat → Nat} {e : Env} {h h' : Hp} {a : Act} {w w' : World}
theorem R.put (r : R ζ N own e h a w) (d : Option Nat) (s : SV) (v : Value) (hd : dstOk N d) (hv : RepS ζ own h w s v) : R ζ N own (updo e d s) h (a.put d v) w := by
  refine ⟨(put_size a d v).trans r.size, r.below, r.obl, (put_defers a d v).trans r.defs, r.fix, ?_, r.box, r.inj, r.row, r.rinj, r.rbox⟩
  cases d with
  | none => exact r.tmp
  | some d =>
    intro t
    by_cases ht : t = d
    · subst ht
      rw [put_tmps_same a t v (by rw [r.size]; exact hd)]
      simp only [updo, upd_same]
      exact hv
    · rw [put_tmps_ne a v ht]
      simp only [updo, upd_ne _ _ ht]
      exact r.tmp t
theorem R.own_lt (r : R ζ N own e h a w) {m : Nat} (hm : h m ≠ none) : own m < w.heap.size := by
  cases hh : h m with
  | none => exact absurd hh hm
  | some x => exact (r.box m x.1 x.2 hh).2.1
theorem R.own_ge (r : R ζ N own e h a w) {m : Nat} (hm : h m ≠ none) : ζ.w.heap.size ≤ own m := by
  cases hh : h m with
  | none => exact absurd hh hm
  | some x => exact (r.box m x.1 x.2 hh).1
theorem R.row_lt (r : R ζ N own e h a w) {m g : Nat} (hm : ζ.ρ m ≠ none) (hg : (ζ.rv m).ownBlock = some g) : g < w.heap.size := by
  cases hh : ζ.ρ m with
  | none => exact absurd hh hm
  | some q =>
    obtain ⟨vs, h1, _, _⟩ := r.row m q hh
    exact (h1.lt g hg).2
theorem Bk.grow {b : Nat} (hw : ∀ k, k < w.heap.size → w'.heap[k]? = w.heap[k]?) (hs : w.heap.size ≤ w'.heap.size) (hb : Bk ζ own h w b) : Bk ζ own h w' b ∧ w'.heap[b]? = w.heap[b]? :=
  ⟨⟨hb.1, Nat.lt_of_lt_of_le hb.2.1 hs, hb.2.2⟩, hw b hb.2.1⟩
theorem R.grow (r : R ζ N own e h a w) (hb : w.grownBy w' none) : R ζ N own e h a w' := by
  have hw : ∀ k, k < w.heap.size → w'.heap[k]? = w.heap[k]? := fun k hk => hb.block k hk (by simp)
  have hB : ∀ b, Bk ζ own h w b → Bk ζ own h w' b ∧ w'.heap[b]? = w.heap[b]? := fun b hb' => Bk.grow hw hb.size hb'
  refine ⟨r.size, grownBy_trans r.below hb (by simp), r.obl, r.defs, r.fix, fun t => RepS.mono hB (fun nm hn => ⟨hn, rfl⟩) _ _ (r.tmp t), ?_, r.inj, ?_, r.rinj, r.rbox⟩
  · intro nm T cs hh
    obtain ⟨h1, h2, vs, h3, h4⟩ := r.box nm T cs hh
    exact ⟨h1, Nat.lt_of_lt_of_le h2 hb.size, vs, (hw _ h2).trans h3, RepL.mono hB cs vs h4⟩
  · intro nm q hq
    obtain ⟨vs, h1, h2, h3⟩ := r.row nm q hq
    exact ⟨vs, h1.kept hb (by cases (ζ.rv nm).ownBlock <;> simp), RepL.mono hB q.cs vs h2, h3⟩
theorem R.alloc (r : R ζ N own e h a w) (nm : Nat) (T : TypeId) (cs : List PV) (vs : List Value) (hN : nm < N) (hn : h nm = none) (hr : RepL (Bk ζ own h w) w cs vs) :
    R ζ N (upd own nm w.heap.size) e (upd h nm (some (T, cs))) a (w.alloc (.cells ⟨vs⟩ T (0, 0))) := by
  have hnew : ∀ m, upd h nm (some (T, cs)) m ≠ none → m ≠ nm → h m ≠ none := fun m hm hne => by rwa [upd_ne _ _ hne] at hm
  have hg : w.grownBy (w.alloc (.cells ⟨vs⟩ T (0, 0))) none := World.grownBy_alloc w _ none
  have hw : ∀ k, k < w.heap.size → (w.alloc (.cells ⟨vs⟩ T (0, 0))).heap[k]? = w.heap[k]? := fun k hk => hg.block k hk (by simp)
  have hB : ∀ b, Bk ζ own h w b → Bk ζ (upd own nm w.heap.size) (upd h nm (some (T, cs))) (w.alloc (.cells ⟨vs⟩ T (0, 0))) b ∧ (w.alloc (.cells ⟨vs⟩ T (0, 0))).heap[b]? = w.heap[b]? := by
    intro b ⟨h0, h1, h2, h3⟩
    refine ⟨⟨h0, by simp; omega, fun m hm => ?_, h3⟩, hw _ h1⟩
    by_cases hmn : m = nm
    · subst hmn; rw [upd_same]; omega
    · rw [upd_ne _ _ hmn]; exact h2 m (hnew m hm hmn)
  have hNm : ∀ m, h m ≠ none → upd h nm (some (T, cs)) m ≠ none ∧ upd own nm w.heap.size m = own m := by
    intro m hm
    have hmn : m ≠ nm := fun e => hm (e ▸ hn)
    exact ⟨by rw [upd_ne _ _ hmn]; exact hm, upd_ne _ _ hmn⟩
  refine ⟨r.size, grownBy_trans r.below hg (by simp), r.obl, r.defs, fun m b hm => ⟨(r.fix m b hm).1, (upd_ne _ _ (by have := (r.fix m b hm).1; omega)).trans (r.fix m b hm).2⟩, fun t => RepS.mono hB hNm _ _ (r.tmp t), ?_, ?_, ?_, r.rinj, ?_⟩
  · intro m T' cs' hh
    by_cases hmn : m = nm
    · subst hmn
      rw [upd_same] at hh
      cases hh
      rw [upd_same]
      exact ⟨r.below.size, by simp, vs, by show (w.heap.push _)[w.heap.size]? = _; simp, RepL.mono hB cs vs hr⟩
    · rw [upd_ne _ _ hmn] at hh
      obtain ⟨h1, h2, vs', h3, h4⟩ := r.box m T' cs' hh
      rw [upd_ne _ _ hmn]
      exact ⟨h1, by simp; omega, vs', (hw _ h2).trans h3, RepL.mono hB cs' vs' h4⟩
  · intro n m hn1 hm1 he
    by_cases h1 : n = nm
    · by_cases h2 : m = nm
      · rw [h1, h2]
      · rw [h1, upd_same, upd_ne _ _ h2] at he
        have := r.own_lt (hnew m hm1 h2)
        omega
    · by_cases h2 : m = nm
      · rw [h2, upd_same, upd_ne _ _ h1] at he
        have := r.own_lt (hnew n hn1 h1)
        omega
      · rw [upd_ne _ _ h1, upd_ne _ _ h2] at he
        exact r.inj n m (hnew n hn1 h1) (hnew m hm1 h2) he
  · intro nm' q hq
    obtain ⟨us, h1, h2, h3⟩ := r.row nm' q hq
    exact ⟨us, h1.kept hg (by cases (ζ.rv nm').ownBlock <;> simp), RepL.mono hB q.cs us h2, h3⟩
  · intro n m hn1 hm1 he
    by_cases h2 : m = nm
    · subst h2
      rw [upd_same] at he
      have := r.row_lt hn1 he
      omega
    · rw [upd_ne _ _ h2] at he
      exact r.rbox n m hn1 (hnew m hm1 h2) he
theorem R.store (r : R ζ N own e h a w) (nm : Nat) (T : TypeId) (cs cs' : List PV) (vs' : List Value) (hn : h nm = some (T, cs)) (hr : RepL (Bk ζ own h w) w cs' vs') :
    R ζ N own e (upd h nm (some (T, cs'))) a (w.setRow (own nm) ⟨vs'⟩) := by
  obtain ⟨g1, g2, vs, g3, g4⟩ := r.box nm T cs hn
  have hiff : ∀ m, upd h nm (some (T, cs')) m ≠ none ↔ h m ≠ none := by
    intro m
    by_cases hmn : m = nm
    · subst hmn; rw [upd_same, hn]; simp
    · rw [upd_ne _ _ hmn]
  have hsz : (w.setRow (own nm) ⟨vs'⟩).heap.size = w.heap.size := by simp [World.setRow]
  have hne : ∀ b, b ≠ own nm → (w.setRow (own nm) ⟨vs'⟩).heap[b]? = w.heap[b]? := by
    intro b hb
    simp only [World.setRow, Array.getElem?_modify]
    rw [if_neg (by omega)]
  have hg : w.grownBy (w.setRow (own nm) ⟨vs'⟩) (some (own nm)) := ⟨rfl, rfl, rfl, by rw [hsz]; exact Nat.le_refl _, fun k _ hk => hne k (fun e => hk (by rw [e]))⟩
  have hB : ∀ b, Bk ζ own h w b → Bk ζ own (upd h nm (some (T, cs'))) (w.setRow (own nm) ⟨vs'⟩) b ∧ (w.setRow (own nm) ⟨vs'⟩).heap[b]? = w.heap[b]? := by
    intro b ⟨h0, h1, h2, h3⟩
    exact ⟨⟨h0, by rw [hsz]; exact h1, fun m hm => h2 m ((hiff m).1 hm), h3⟩, hne b (fun e => h2 nm (by rw [hn]; simp) e.symm)⟩
  refine ⟨r.size, grownBy_trans r.below hg (by intro k hk; cases hk; exact .inr g1), r.obl, r.defs, r.fix, fun t => RepS.mono hB (fun m hm => ⟨(hiff m).2 hm, rfl⟩) _ _ (r.tmp t), ?_, ?_, ?_, r.rinj, ?_⟩
  · intro m T' c hh
    by_cases hmn : m = nm
    · subst hmn
      rw [upd_same] at hh
      cases hh
      exact ⟨g1, by rw [hsz]; exact g2, vs', setRow_heap w _ _ _ T (0, 0) g3, RepL.mono hB cs' vs' hr⟩
    · rw [upd_ne _ _ hmn] at hh
      obtain ⟨h1, h2, u, h3, h4⟩ := r.box m T' c hh
      have : own m ≠ own nm := fun e => hmn (r.inj m nm (by rw [hh]; simp) (by rw [hn]; simp) e)
      exact ⟨h1, by rw [hsz]; exact h2, u, (hne _ this).trans h3, RepL.mono hB c u h4⟩
  · exact fun n m hn1 hm1 => r.inj n m ((hiff n).1 hn1) ((hiff m).1 hm1)
  · intro nm' q hq
    obtain ⟨us, h1, h2, h3⟩ := r.row nm' q hq
    exact ⟨us, h1.kept hg (.inr (r.rbox nm' nm (by rw [hq]; simp) (by rw [hn]; simp))), RepL.mono hB q.cs us h2, h3⟩
  · exact fun n m hn1 hm1 => r.rbox n m hn1 ((hiff m).1 hm1)
theorem R.forget (r : R ζ N own e h a w) (e' : Env) (he : ∀ t, e' t = e t ∨ e' t = .any) : R ζ N own e' h a w := by
  refine ⟨r.size, r.below, r.obl, r.defs, r.fix, fun t => ?_, r.box, r.inj, r.row, r.rinj, r.rbox⟩
  rcases he t with h1 | h1
  · rw [h1]; exact r.tmp t
  · rw [h1]; trivial
def Fr.rows (ζ : Fr) (ρ : Rws) (rv : Nat → Value) : Fr := { ζ with ρ := ρ, rv := rv }
theorem R.drop (r : R ζ N own e h a w) (h' : Hp) (hh : ∀ n, h' n = h n ∨ h' n = none) (ρ' : Rws) (hρ : ∀ n, ρ' n = ζ.ρ n ∨ ρ' n = none) (he : ∀ t nm off, e t = .box nm off → h' nm ≠ none) (he2 : ∀ t nm, e t = .orow nm → ρ' nm ≠ none) (he3 : ∀ t nm off, e t = .rowp nm off → ρ' nm ≠ none) :
    R (ζ.rows ρ' ζ.rv) N own e h' a w := by
  have hle : ∀ m, h' m ≠ none → h m ≠ none ∧ h' m = h m := by
    intro m hm
    rcases hh m with h1 | h1
    · exact ⟨h1 ▸ hm, h1⟩
    · exact absurd h1 hm
  have hleρ : ∀ m, ρ' m ≠ none → ζ.ρ m ≠ none ∧ ρ' m = ζ.ρ m := by
    intro m hm
    rcases hρ m with h1 | h1
    · exact ⟨h1 ▸ hm, h1⟩
    · exact absurd h1 hm
  have hB : ∀ b, Bk ζ own h w b → Bk (ζ.rows ρ' ζ.rv) own h' w b ∧ w.heap[b]? = w.heap[b]? := fun b hb => ⟨⟨hb.1, hb.2.1, fun m hm => hb.2.2.1 m (hle m hm).1, fun m hm => hb.2.2.2.1 m (hleρ m hm).1, hb.2.2.2.2⟩, rfl⟩
  refine ⟨r.size, r.below, r.obl, r.defs, r.fix, fun t => ?_, ?_, fun n m hn hm => r.inj n m (hle n hn).1 (hle m hm).1, ?_, fun n m g hn hm => r.rinj n m g (hleρ n hn).1 (hleρ m hm).1, fun n m hn hm => r.rbox n m (hleρ n hn).1 (hle m hm).1⟩
  · have ht := r.tmp t
    cases hs : e t with
    | p x => rw [hs] at ht; exact RepP.mono hB x _ ht
    | box nm off => rw [hs] at ht; exact ⟨he t nm off hs, ht.2⟩
    | orow nm => rw [hs] at ht; exact ⟨he2 t nm hs, ht.2⟩
    | rowp nm off => rw [hs] at ht; exact ⟨he3 t nm off hs, ht.2⟩
    | any => trivial
  · intro m T cs hm
    obtain ⟨_, e2⟩ := hle m (by rw [hm]; simp)
    obtain ⟨h1, h2, vs, h3, h4⟩ := r.box m T cs (by rw [← e2]; exact hm)
    exact ⟨h1, h2, vs, h3, RepL.mono hB cs vs h4⟩
  · intro m q hm
    obtain ⟨_, e2⟩ := hleρ m (by show ρ' m ≠ none; rw [show ρ' m = some q from hm]; simp)
    obtain ⟨vs, h1, h2, h3⟩ := r.row m q (by rw [← e2]; exact hm)
    exact ⟨vs, h1, RepL.mono hB q.cs vs h2, h3⟩
end
end Go.Sx
