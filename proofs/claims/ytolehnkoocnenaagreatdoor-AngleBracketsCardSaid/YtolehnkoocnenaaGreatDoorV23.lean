/- A part of a proof; the last text of this claim says of what. -/
import Derived.Test.YtolehnkoocnenaaGreatDoorV22
import Derived.Laws.StructEq
set_option linter.unusedVariables false
set_option linter.unusedSimpArgs false
set_option linter.unusedSectionVars false
namespace Go.Sx
open Go Go.RowKit Go.Shelf Go.Proofs
def ekB : TypeDesc → EK → Bool
  | .int k, .int k' => k == k'
  | .bool, .bool => true
  | .string, .string => true
  | _, _ => false
def eqFieldsB (P : Program) : Nat → List Field → List EK → Bool
  | _, [], [] => true
  | i, f :: fs, k :: ks => f.name != "_" && f.offset == i && (match P.underlying f.type with | some d => ekB d k | none => false) && eqFieldsB P (i + 1) fs ks
  | _, _, _ => false
def eqB (P : Program) (t : TypeId) (ks : List EK) : Bool :=
  (match P.underlying t with | some (.struct fs) => eqFieldsB P 0 fs.toList ks | _ => false) && !P.stoodInHeld t && !P.eqGuardType P.depth t
theorem equalIn_leaf {P : Program} (d : Nat) {t : TypeId} {td : TypeDesc} {k : EK} (hu : P.underlying t = some td) (hk : ekB td k = true) {x y : Value} (hx : k.has x = true) (hy : k.has y = true) (w : World) :
    (Op.equalIn (d + 1) t x y).run P w = .ok (valEq x y) w := by
  cases k <;> cases td <;> simp [ekB] at hk <;> cases x <;> simp [EK.has] at hx <;> cases y <;> simp [EK.has] at hy
  · simp [Op.equalIn, underlying, hu, valEq, ← hx, ← hy]
  · simp [Op.equalIn, underlying, hu, valEq]
  · simp [Op.equalIn, underlying, hu, valEq]
theorem part_leaf {P : Program} {t : TypeId} {td : TypeDesc} {k : EK} (hu : P.underlying t = some td) (hk : ekB td k = true) {cs : Array Value} {i : Nat} {v : Value} (hv : cs[i]? = some v) (w : World) : (part t cs i).run P w = .ok v w := by
  have : (isAgg t).run P w = .ok false w := by
    cases td <;> cases k <;> simp [ekB] at hk <;> simp [isAgg, underlying, hu]
  simp [part, this, hv]
theorem eqFields_run {P : Program} (d : Nat) (xs ys : Array Value) (w : World) : ∀ (fs : List Field) (ks : List EK) (i : Nat) (us vs : List Value), eqFieldsB P i fs ks = true → hasAll ks us = true → hasAll ks vs = true →
    (∀ j v, us[j]? = some v → xs[i + j]? = some v) → (∀ j v, vs[j]? = some v → ys[i + j]? = some v) → (Op.eqFields (d + 1) xs ys fs).run P w = .ok (eqAll us vs) w
  | [], ks, i, us, vs, hf, hu, hv, _, _ => by
    cases ks with
    | nil =>
      cases us <;> simp [hasAll] at hu
      cases vs <;> simp [hasAll] at hv
      simp [Op.eqFields, eqAll]
    | cons k ks => simp [eqFieldsB] at hf
  | f :: fs, ks, i, us, vs, hf, hu, hv, h1, h2 => by
    cases ks with
    | nil => simp [eqFieldsB] at hf
    | cons k ks =>
      simp only [eqFieldsB, Bool.and_eq_true, bne_iff_ne, beq_iff_eq] at hf
      obtain ⟨⟨⟨hn, ho⟩, ht⟩, hr⟩ := hf
      split at ht
      · rename_i td htd
        cases us with
        | nil => simp [hasAll] at hu
        | cons u us =>
          cases vs with
          | nil => simp [hasAll] at hv
          | cons v vs =>
            simp only [hasAll, Bool.and_eq_true] at hu hv
            have e1 := part_leaf htd ht (by simpa [ho] using h1 0 u rfl : xs[f.offset]? = some u) w
            have e2 := part_leaf htd ht (by simpa [ho] using h2 0 v rfl : ys[f.offset]? = some v) w
            have e3 := equalIn_leaf d htd ht hu.1 hv.1 w
            have ih := eqFields_run d xs ys w fs ks (i + 1) us vs hr hu.2 hv.2 (fun j x hj => by rw [show i + 1 + j = i + (j + 1) by omega]; exact h1 (j + 1) x (by simpa using hj)) (fun j x hj => by rw [show i + 1 + j = i + (j + 1) by omega]; exact h2 (j + 1) x (by simpa using hj))
            rw [Op.eqFields, if_pos hn]
            simp only [Sem.run_bind, e1, e2, e3, Result.andThen_ok, eqAll]
            cases valEq u v
            · simp
            · simpa using ih
      · cases ht
theorem eqOk_of {P : Program} {t : TypeId} {ks : List EK} (h : eqB P t ks = true) : EqOk P t ks := by
  unfold eqB at h
  simp only [Bool.and_eq_true, Bool.not_eq_true'] at h
  obtain ⟨⟨h1, h2⟩, h3⟩ := h
  split at h1
  · rename_i fs hu
    intro xs ys w hx hy
    refine ⟨fun x y => ?_, ?_⟩
    · constructor <;> simp [eqGuard, h3]
    · have hf : P.fieldsOf t = fs := by simp [Program.fieldsOf, hu]
      show (Op.equalIn (9999 + 1) t (.agg ⟨xs⟩) (.agg ⟨ys⟩)).run P w = _
      rw [run_equalIn_struct (P := P) w 9999 t ⟨xs⟩ ⟨ys⟩ (by rw [hf]; exact hu) h2, hf]
      exact eqFields_run 9998 ⟨xs⟩ ⟨ys⟩ w fs.toList ks 0 xs ys h1 hx hy (by simp) (by simp)
  · cases h1
inductive TT where
  | nil
  | node (l : TT) (t : TypeId) (ti : TI) (r : TT)
def TT.get : TT → TypeId → Option TI
  | .nil, _ => none
  | .node l k ti r, t => match Nat.blt t k with
    | true => l.get t
    | false => (match Nat.blt k t with | true => r.get t | false => some ti)
def TT.all (p : TypeId → TI → Bool) : TT → Bool
  | .nil => true
  | .node l k ti r => p k ti && l.all p && r.all p
theorem TT.get_all {p : TypeId → TI → Bool} : ∀ {x : TT} {t : TypeId} {ti : TI}, x.all p = true → x.get t = some ti → p t ti = true
  | .nil, t, ti, _, h => by cases h
  | .node l k tk r, t, ti, ha, h => by
    simp only [TT.all, Bool.and_eq_true] at ha
    simp only [TT.get] at h
    split at h
    · exact TT.get_all ha.1.2 h
    · rename_i h1
      split at h
      · exact TT.get_all ha.2 h
      · rename_i h2
        cases h
        have e1 : ¬ t < k := by intro hc; have := Nat.blt_eq.symm.mp hc; rw [this] at h1; cases h1
        have e2 : ¬ k < t := by intro hc; have := Nat.blt_eq.symm.mp hc; rw [this] at h2; cases h2
        obtain rfl : t = k := Nat.le_antisymm (Nat.le_of_not_lt e2) (Nat.le_of_not_lt e1)
        exact ha.1.1
theorem tOk_of {P : Program} {x : TT} (h : (x.all fun t ti => tiB P t ti && (ti.eqs.isEmpty || eqB P t ti.eqs)) = true) : TOk P x.get := by
  have hb : ∀ {t ti}, x.get t = some ti → tiB P t ti = true ∧ (ti.eqs.isEmpty || eqB P t ti.eqs) = true := by
    intro t ti ht
    have := TT.get_all h ht
    simpa only [Bool.and_eq_true] using this
  refine ⟨fun t ti ht => tiOk_of (hb ht).1, fun t ti ht hne => ?_⟩
  have h3 := (hb ht).2
  rw [Bool.or_eq_true] at h3
  rcases h3 with h3 | h3
  · exact absurd (List.isEmpty_iff.1 h3) hne
  · exact eqOk_of h3
end Go.Sx
