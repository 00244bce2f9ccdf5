/- A part of a proof; the last text of this claim says of what. -/
import Derived.Test.YtnlabeglboomlaaGreatDoorV3
set_option linter.unusedVariables false
set_option linter.unusedSimpArgs false
set_option linter.unusedSectionVars false
namespace Go.Sx
open Go Go.RowKit
def killS (nm : Nat) : SV → SV
  | .orow m => if m = nm then .any else .orow m
  | .rowp m off => if m = nm then .any else .rowp m off
  | s => s
def killE (nm : Nat) (e : Env) : Env := fun t => killS nm (e t)
def frzS (nm n : Nat) (cs : List PV) : SV → SV
  | .orow m => if m = nm then .p (.sl n cs) else .orow m
  | .rowp m off => if m = nm then .p (.ptr (cs.drop off)) else .rowp m off
  | s => s
def frzE (nm n : Nat) (cs : List PV) (e : Env) : Env := fun t => frzS nm n cs (e t)
def frbS (nm : Nat) (cs : List PV) : SV → SV
  | .box m off => if m = nm then .p (.ptr (cs.drop off)) else .box m off
  | s => s
def frbE (nm : Nat) (cs : List PV) (e : Env) : Env := fun t => frbS nm cs (e t)
section
variable {ζ : Fr} {N : Nat} {own own' : Nat → Nat} {e e' : Env} {h h' : Hp} {a : Act} {w w' : World}
theorem R.rowBk (r : R ζ N own e h a w) {nm : Nat} {row : Option Nat} (hg : w.grownBy w' row) (hrow : row = none ∨ ζ.ρ nm ≠ none ∧ row = (ζ.rv nm).ownBlock) {q : RowE} {v : Value}
    (hblk : (∃ q0, ζ.ρ nm = some q0 ∧ v.ownBlock = (ζ.rv nm).ownBlock ∧ q.par = q0.par ∧ (q.par = true → v = ζ.rv nm)) ∨ (q.par = false ∧ ∀ k, v.ownBlock = some k → w.heap.size ≤ k)) :
    ∀ b, Bk ζ own h w b → Bk (ζ.rows (upd ζ.ρ nm (some q)) (upd ζ.rv nm v)) own h w' b ∧ w'.heap[b]? = w.heap[b]? := by
  have hrowlt : ∀ k, row = some k → k < w.heap.size ∧ ∀ b, Bk ζ own h w b → b ≠ k := by
    intro k hk1
    rcases hrow with h1 | ⟨h1, h2⟩
    · rw [h1] at hk1; cases hk1
    · rw [h2] at hk1
      exact ⟨r.row_lt h1 hk1, fun b hb e1 => hb.2.2.2.1 nm h1 (by rw [hk1, e1])⟩
  intro b hb
  refine ⟨⟨hb.1, Nat.lt_of_lt_of_le hb.2.1 hg.size, hb.2.2.1, fun m hm => ?_, hb.2.2.2.2⟩, hg.block b hb.2.1 (fun e1 => (hrowlt b e1.symm).2 b hb rfl)⟩
  by_cases hmn : m = nm
  · subst hmn
    show (upd ζ.rv m v m).ownBlock ≠ some b
    rw [upd_same]
    intro e1
    rcases hblk with ⟨q0, h1, h2, _⟩ | ⟨_, h2⟩
    · exact hb.2.2.2.1 m (by rw [h1]; simp) (by rw [← h2, e1])
    · have := h2 b e1; have := hb.2.1; omega
  · show (upd ζ.rv nm v m).ownBlock ≠ some b
    rw [upd_ne _ _ hmn]
    refine hb.2.2.2.1 m ?_
    have hm : upd ζ.ρ nm (some q) m ≠ none := hm
    rwa [upd_ne _ _ hmn] at hm
theorem R.rowSet (r : R ζ N own e h a w) {nm : Nat} {row : Option Nat} (hg : w.grownBy w' row) (hrow : row = none ∨ ζ.ρ nm ≠ none ∧ row = (ζ.rv nm).ownBlock) {q : RowE} {v : Value} {vs : List Value}
    (hown : w'.ownsRow 0 q.E q.sz v q.n vs) (hrep : RepL (Bk (ζ.rows (upd ζ.ρ nm (some q)) (upd ζ.rv nm v)) own h w') w' q.cs vs)
    (hblk : (∃ q0, ζ.ρ nm = some q0 ∧ v.ownBlock = (ζ.rv nm).ownBlock ∧ q.par = q0.par ∧ (q.par = true → v = ζ.rv nm)) ∨ (q.par = false ∧ ∀ k, v.ownBlock = some k → w.heap.size ≤ k))
    (hk : ∀ t, e' t = .any ∨ e' t = e t ∧ (killS nm (e t) = e t ∨ ζ.ρ nm ≠ none ∧ v = ζ.rv nm)) :
    R (ζ.rows (upd ζ.ρ nm (some q)) (upd ζ.rv nm v)) N own e' h a w' := by
  have hother : ∀ m, m ≠ nm → upd ζ.ρ nm (some q) m = ζ.ρ m := fun m hm => upd_ne _ _ hm
  have hB := r.rowBk hg hrow (q := q) (v := v) hblk
  have hrest : ∀ m, ζ.ρ m ≠ none → m ≠ nm → ∀ g, (ζ.rv m).ownBlock = some g → g < w.heap.size ∧ some g ≠ row := by
    intro m hm hmn g hgm
    refine ⟨r.row_lt hm hgm, fun e1 => ?_⟩
    rcases hrow with h1 | ⟨h1, h2⟩
    · rw [h1] at e1; cases e1
    · exact hmn (r.rinj m nm g hm h1 hgm (by rw [← h2, ← e1]))
  have hnmblk : ∀ g, v.ownBlock = some g → (ζ.ρ nm ≠ none ∧ (ζ.rv nm).ownBlock = some g) ∨ w.heap.size ≤ g := by
    intro g hv
    rcases hblk with ⟨q0, h1, h2, _⟩ | ⟨_, h2⟩
    · exact .inl ⟨by rw [h1]; simp, by rw [← h2, hv]⟩
    · exact .inr (h2 g hv)
  have hmem : ∀ m, (ζ.rows (upd ζ.ρ nm (some q)) (upd ζ.rv nm v)).ρ m ≠ none → m ≠ nm → ζ.ρ m ≠ none := by
    intro m hm hmn
    rwa [show (ζ.rows (upd ζ.ρ nm (some q)) (upd ζ.rv nm v)).ρ m = ζ.ρ m from hother m hmn] at hm
  refine ⟨r.size, ?_, r.obl, r.defs, r.fix, fun t => ?_, ?_, r.inj, ?_, ?_, ?_⟩
  · refine grownBy_trans r.below hg fun k hk1 => ?_
    rcases hrow with h1 | ⟨h1, h2⟩
    · rw [h1] at hk1; cases hk1
    · cases hq : ζ.ρ nm with
      | none => exact absurd hq h1
      | some q0 =>
        obtain ⟨_, _, _, h5⟩ := r.row nm q0 hq
        rw [h2] at hk1
        split at h5
        · rw [h5] at hk1; exact .inl hk1
        · exact .inr (h5 k hk1)
  · rcases hk t with h1 | ⟨h1, h2⟩
    · rw [h1]; trivial
    · rw [h1]
      have ht := r.tmp t
      cases hs : e t with
      | p x => rw [hs] at ht; exact RepP.mono hB x _ ht
      | box m off => rw [hs] at ht; exact ht
      | any => trivial
      | orow m =>
        rw [hs] at ht h2
        by_cases hmn : m = nm
        · subst hmn
          rcases h2 with h2 | ⟨_, h3⟩
          · simp [killS] at h2
          · refine ⟨by show upd ζ.ρ m (some q) m ≠ none; rw [upd_same]; simp, ?_⟩
            show _ = upd ζ.rv m v m
            rw [upd_same, h3]; exact ht.2
        · refine ⟨by show upd ζ.ρ nm (some q) m ≠ none; rw [upd_ne _ _ hmn]; exact ht.1, ?_⟩
          show _ = upd ζ.rv nm v m
          rw [upd_ne _ _ hmn]; exact ht.2
      | rowp m off =>
        rw [hs] at ht h2
        by_cases hmn : m = nm
        · subst hmn
          rcases h2 with h2 | ⟨_, h3⟩
          · simp [killS] at h2
          · refine ⟨by show upd ζ.ρ m (some q) m ≠ none; rw [upd_same]; simp, ?_⟩
            show ∃ g, (upd ζ.rv m v m).ownBlock = some g ∧ _
            rw [upd_same, h3]; exact ht.2
        · refine ⟨by show upd ζ.ρ nm (some q) m ≠ none; rw [upd_ne _ _ hmn]; exact ht.1, ?_⟩
          show ∃ g, (upd ζ.rv nm v m).ownBlock = some g ∧ _
          rw [upd_ne _ _ hmn]; exact ht.2
  · intro m T cs hh
    obtain ⟨h1, h2, us, h3, h4⟩ := r.box m T cs hh
    refine ⟨h1, Nat.lt_of_lt_of_le h2 hg.size, us, (hg.block _ h2 ?_).trans h3, RepL.mono hB cs us h4⟩
    intro e1
    rcases hrow with h5 | ⟨h5, h6⟩
    · rw [h5] at e1; cases e1
    · exact r.rbox nm m h5 (by rw [hh]; simp) (by rw [← h6, ← e1])
  · intro m q' hq
    by_cases hmn : m = nm
    · subst hmn
      have : q' = q := by
        have h1 : upd ζ.ρ m (some q) m = some q' := hq
        rw [upd_same] at h1; cases h1; rfl
      subst this
      refine ⟨vs, ?_, hrep, ?_⟩
      · show w'.ownsRow 0 q'.E q'.sz (upd ζ.rv m v m) q'.n vs
        rw [upd_same]; exact hown
      · show if q'.par then upd ζ.rv m v m = ζ.ov else ∀ g, (upd ζ.rv m v m).ownBlock = some g → ζ.w.heap.size ≤ g
        rw [upd_same]
        rcases hblk with ⟨q0, h1, h2, h3, h4⟩ | ⟨h1, h2⟩
        · obtain ⟨_, _, _, h5⟩ := r.row m q0 h1
          split
          · rename_i hp
            rw [← h3, if_pos hp] at h5
            rw [h4 hp, h5]
          · rename_i hp
            rw [← h3, if_neg hp] at h5
            intro g hv
            exact h5 g (by rw [← h2, hv])
        · rw [h1]
          simp only [Bool.false_eq_true, if_false]
          intro g hv
          have := h2 g hv
          have := r.below.size
          omega
    · have hq' : ζ.ρ m = some q' := by rw [← hother m hmn]; exact hq
      obtain ⟨us, h1, h2, h3⟩ := r.row m q' hq'
      have hrv : (ζ.rows (upd ζ.ρ nm (some q)) (upd ζ.rv nm v)).rv m = ζ.rv m := upd_ne _ _ hmn
      refine ⟨us, ?_, RepL.mono hB _ us h2, ?_⟩
      · rw [hrv]
        refine h1.kept hg ?_
        cases hv : (ζ.rv m).ownBlock with
        | none => exact .inl rfl
        | some g => exact .inr (hrest m (by rw [hq']; simp) hmn g hv).2
      · rw [hrv]; exact h3
  · intro n m g hn hm h1 h2
    by_cases hnn : n = nm
    · by_cases hmn : m = nm
      · rw [hnn, hmn]
      · have h1' : v.ownBlock = some g := by
          have h1 : (upd ζ.rv nm v n).ownBlock = some g := h1
          rwa [hnn, upd_same] at h1
        have h2' : (ζ.rv m).ownBlock = some g := by
          have h2 : (upd ζ.rv nm v m).ownBlock = some g := h2
          rwa [upd_ne _ _ hmn] at h2
        rcases hnmblk g h1' with ⟨h3, h4⟩ | h3
        · rw [hnn]; exact r.rinj nm m g h3 (hmem m hm hmn) h4 h2'
        · have := r.row_lt (hmem m hm hmn) h2'; omega
    · by_cases hmn : m = nm
      · have h1' : (ζ.rv n).ownBlock = some g := by
          have h1 : (upd ζ.rv nm v n).ownBlock = some g := h1
          rwa [upd_ne _ _ hnn] at h1
        have h2' : v.ownBlock = some g := by
          have h2 : (upd ζ.rv nm v m).ownBlock = some g := h2
          rwa [hmn, upd_same] at h2
        rcases hnmblk g h2' with ⟨h3, h4⟩ | h3
        · rw [hmn]; exact r.rinj n nm g (hmem n hn hnn) h3 h1' h4
        · have := r.row_lt (hmem n hn hnn) h1'; omega
      · have h1' : (ζ.rv n).ownBlock = some g := by
          have h1 : (upd ζ.rv nm v n).ownBlock = some g := h1
          rwa [upd_ne _ _ hnn] at h1
        have h2' : (ζ.rv m).ownBlock = some g := by
          have h2 : (upd ζ.rv nm v m).ownBlock = some g := h2
          rwa [upd_ne _ _ hmn] at h2
        exact r.rinj n m g (hmem n hn hnn) (hmem m hm hmn) h1' h2'
  · intro n m hn hm h1
    by_cases hnn : n = nm
    · have h1' : v.ownBlock = some (own m) := by
        have h1 : (upd ζ.rv nm v n).ownBlock = some (own m) := h1
        rwa [hnn, upd_same] at h1
      rcases hnmblk _ h1' with ⟨h3, h4⟩ | h3
      · exact r.rbox nm m h3 hm h4
      · have := r.own_lt hm; omega
    · have h1' : (ζ.rv n).ownBlock = some (own m) := by
        have h1 : (upd ζ.rv nm v n).ownBlock = some (own m) := h1
        rwa [upd_ne _ _ hnn] at h1
      exact r.rbox n m (hmem n hn hnn) hm h1'
theorem ownsRow_repC {B : Nat → Prop} {E : TypeId} {sz n : Nat} {v : Value} {vs : List Value} {cs : List PV} (ho : w.ownsRow 0 E sz v n vs) (hr : RepL B w cs vs) {g : Nat} (hg : v.ownBlock = some g) : RepC B w cs g 0 := by
  refine RepC.of_vals hr fun j u hj => ?_
  have := ho.cells hg j u hj
  have hadd : (⟨g, 0, none⟩ : Addr).add j = ⟨g, 0 + j, none⟩ := by unfold Addr.add; split <;> simp_all
  rwa [hadd] at this
theorem ownsRow_slice {B : Nat → Prop} {E : TypeId} {sz n : Nat} {v : Value} {vs : List Value} {cs : List PV} (ho : w.ownsRow 0 E sz v n vs) (hr : RepL B w cs vs) (hB : ∀ g, v.ownBlock = some g → B g) : RepP B w (.sl n cs) v := by
  simp only [RepP]
  rcases ho.2 with ⟨rfl, rfl⟩ | ⟨g, cap, cur, rfl, _, h2, h3, h4, h5, h6⟩
  · have : cs = [] := by
      have := hr.length
      rw [ho.1] at this
      exact List.eq_nil_of_length_eq_zero (by omega)
    exact ⟨none, 0, rfl, Nat.le_refl _, .inl rfl, .inl this⟩
  · exact ⟨_, cap, rfl, h3, .inr (by simp), .inr ⟨g, 0, rfl, hB g rfl, ownsRow_repC ho hr rfl⟩⟩
theorem R.rowFreeze (r : R ζ N own e h a w) {nm : Nat} {q : RowE} (hq : ζ.ρ nm = some q) (hp : q.par = false) : R (ζ.rows (upd ζ.ρ nm none) ζ.rv) N own (frzE nm q.n q.cs e) h a w := by
  have hne : ζ.ρ nm ≠ none := by rw [hq]; simp
  obtain ⟨vs, g1, g2, g3⟩ := r.row nm q hq
  rw [hp] at g3
  have hmem : ∀ m, (ζ.rows (upd ζ.ρ nm none) ζ.rv).ρ m ≠ none → m ≠ nm ∧ ζ.ρ m ≠ none := by
    intro m hm
    have hm : upd ζ.ρ nm none m ≠ none := hm
    by_cases hmn : m = nm
    · rw [hmn, upd_same] at hm; exact absurd rfl hm
    · rw [upd_ne _ _ hmn] at hm; exact ⟨hmn, hm⟩
  have hB : ∀ b, Bk ζ own h w b → Bk (ζ.rows (upd ζ.ρ nm none) ζ.rv) own h w b ∧ w.heap[b]? = w.heap[b]? := fun b hb => ⟨⟨hb.1, hb.2.1, hb.2.2.1, fun m hm => hb.2.2.2.1 m (hmem m hm).2, hb.2.2.2.2⟩, rfl⟩
  have hnew : ∀ g, (ζ.rv nm).ownBlock = some g → Bk (ζ.rows (upd ζ.ρ nm none) ζ.rv) own h w g := by
    intro g hg
    have h1 : ζ.w.heap.size ≤ g := by simpa using g3 g hg
    refine ⟨.inr h1, r.row_lt hne hg, fun m hm e1 => r.rbox nm m hne hm (by rw [hg, e1]), fun m hm e1 => ?_, fun e1 => ?_⟩
    · obtain ⟨h2, h3⟩ := hmem m hm
      exact h2 (r.rinj m nm g h3 hne e1 hg)
    · have := r.obl g e1; omega
  refine ⟨r.size, r.below, r.obl, r.defs, r.fix, fun t => ?_, ?_, r.inj, ?_, fun n m g hn hm => r.rinj n m g (hmem n hn).2 (hmem m hm).2, fun n m hn hm => r.rbox n m (hmem n hn).2 hm⟩
  · have ht := r.tmp t
    unfold frzE
    cases hs : e t with
    | p x => rw [hs] at ht; exact RepP.mono hB x _ ht
    | box m off => rw [hs] at ht; exact ht
    | any => trivial
    | orow m =>
      rw [hs] at ht
      simp only [frzS]
      split
      · rename_i hmn
        subst hmn
        rw [ht.2]
        exact ownsRow_slice g1 (RepL.mono hB _ _ g2) hnew
      · rename_i hmn
        exact ⟨by show upd ζ.ρ nm none m ≠ none; rw [upd_ne _ _ hmn]; exact ht.1, ht.2⟩
    | rowp m off =>
      rw [hs] at ht
      simp only [frzS]
      split
      · rename_i hmn
        subst hmn
        obtain ⟨_, g, h1, h2⟩ := ht
        show RepP _ _ _ _
        simp only [RepP]
        have := (ownsRow_repC g1 (RepL.mono hB _ _ g2) h1).drop off
        rw [Nat.zero_add] at this
        exact ⟨g, off, h2, hnew g h1, this⟩
      · rename_i hmn
        exact ⟨by show upd ζ.ρ nm none m ≠ none; rw [upd_ne _ _ hmn]; exact ht.1, ht.2⟩
  · intro m T cs hm
    obtain ⟨h1, h2, vs, h3, h4⟩ := r.box m T cs hm
    exact ⟨h1, h2, vs, h3, RepL.mono hB cs vs h4⟩
  · intro m q' hm
    have hm' := hmem m (by rw [hm]; simp)
    have hq' : ζ.ρ m = some q' := by
      have h1 : upd ζ.ρ nm none m = some q' := hm
      rwa [upd_ne _ _ hm'.1] at h1
    obtain ⟨vs, h1, h2, h3⟩ := r.row m q' hq'
    exact ⟨vs, h1, RepL.mono hB _ vs h2, h3⟩
theorem R.boxFreeze (r : R ζ N own e h a w) {nm : Nat} {T : TypeId} {cs : List PV} (hq : h nm = some (T, cs)) : R ζ N own (frbE nm cs e) (upd h nm none) a w := by
  have hne : h nm ≠ none := by rw [hq]; simp
  obtain ⟨g1, g2, vs, g3, g4⟩ := r.box nm T cs hq
  have hmem : ∀ m, upd h nm none m ≠ none → m ≠ nm ∧ h m ≠ none := by
    intro m hm
    by_cases hmn : m = nm
    · rw [hmn, upd_same] at hm; exact absurd rfl hm
    · rw [upd_ne _ _ hmn] at hm; exact ⟨hmn, hm⟩
  have hB : ∀ b, Bk ζ own h w b → Bk ζ own (upd h nm none) w b ∧ w.heap[b]? = w.heap[b]? := fun b hb => ⟨⟨hb.1, hb.2.1, fun m hm => hb.2.2.1 m (hmem m hm).2, hb.2.2.2⟩, rfl⟩
  have hnew : Bk ζ own (upd h nm none) w (own nm) := by
    refine ⟨.inr g1, g2, fun m hm e1 => ?_, fun m hm e1 => r.rbox m nm hm hne e1, fun e1 => ?_⟩
    · obtain ⟨h2, h3⟩ := hmem m hm
      exact h2 (r.inj m nm h3 hne e1)
    · have := r.obl _ e1; omega
  have hC : RepC (Bk ζ own (upd h nm none) w) w cs (own nm) 0 := by
    refine RepC.of_vals (RepL.mono hB _ _ g4) fun j u hj => ?_
    simp only [World.cell?, g3]
    simpa using hj
  refine ⟨r.size, r.below, r.obl, r.defs, r.fix, fun t => ?_, ?_, fun n m hn hm => r.inj n m (hmem n hn).2 (hmem m hm).2, ?_, r.rinj, fun n m hn hm => r.rbox n m hn (hmem m hm).2⟩
  · have ht := r.tmp t
    unfold frbE
    cases hs : e t with
    | p x => rw [hs] at ht; exact RepP.mono hB x _ ht
    | orow m => rw [hs] at ht; exact ht
    | rowp m off => rw [hs] at ht; exact ht
    | any => trivial
    | box m off =>
      rw [hs] at ht
      simp only [frbS]
      split
      · rename_i hmn
        subst hmn
        show RepP _ _ _ _
        simp only [RepP]
        have := hC.drop off
        rw [Nat.zero_add] at this
        exact ⟨own m, off, ht.2, hnew, this⟩
      · rename_i hmn
        exact ⟨by rw [upd_ne _ _ hmn]; exact ht.1, ht.2⟩
  · intro m T' cs' hm
    have hm' := hmem m (by rw [hm]; simp)
    rw [upd_ne _ _ hm'.1] at hm
    obtain ⟨h1, h2, vs, h3, h4⟩ := r.box m T' cs' hm
    exact ⟨h1, h2, vs, h3, RepL.mono hB cs' vs h4⟩
  · intro m q' hm
    obtain ⟨vs, h1, h2, h3⟩ := r.row m q' hm
    exact ⟨vs, h1, RepL.mono hB _ vs h2, h3⟩
end
end Go.Sx
