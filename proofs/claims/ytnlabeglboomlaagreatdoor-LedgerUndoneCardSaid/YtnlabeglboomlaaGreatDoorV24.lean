/- A part of a proof; the last text of this claim says of what. -/
import Derived.Test.YtnlabeglboomlaaGreatDoorV23
import Derived.Laws.StructEq
set_option linter.unusedVariables false
set_option linter.unusedSimpArgs false
set_option linter.unusedSectionVars false
namespace Go.Sx
open Go Go.RowKit Go.Shelf Go.Proofs
def ekB : TypeDesc → EK → Bool
  | .int k, .int k' => k == k'
  | .bool, .bool => true
  | .string, .string => true
  | _, _ => false
def eqFieldsB (P : Program) : Nat → List Field → List EK → Bool
  | _, [], [] => true
  | i, f :: fs, k :: ks => f.name != "_" && f.offset == i && (match P.underlying f.type with | some d => ekB d k | none => false) && eqFieldsB P (i + 1) fs ks
  | _, _, _ => false
def eqB (P : Program) (t : TypeId) (ks : List EK) : Bool :=
  (match P.underlying t with | some (.struct fs) => eqFieldsB P 0 fs.toList ks | _ => false) && !P.stoodInHeld t && !P.eqGuardType P.depth t
theorem equalIn_leaf {P : Program} (d : Nat) {t : TypeId} {td : TypeDesc} {k : EK} (hu : P.underlying t = some td) (hk : ekB td k = true) {x y : Value} (hx : k.has x = true) (hy : k.has y = true) (w : World) :
    (Op.equalIn (d + 1) t x y).run P w = .ok (valEq x y) w := by
  cases k <;> cases td <;> simp [ekB] at hk <;> cases x <;> simp [EK.has] at hx <;> cases y <;> simp [EK.has] at hy
  · simp [Op.equalIn, underlying, hu, valEq, ← hx, ← hy]
  · simp [Op.equalIn, underlying, hu, valEq]
  · simp [Op.equalIn, underlying, hu, valEq]
theorem part_leaf {P : Program} {t : TypeId} {td : TypeDesc} {k : EK} (hu : P.underlying t = some td) (hk : ekB td k = true) {cs : Array Value} {i : Nat} {v : Value} (hv : cs[i]? = some v) (w : World) : (part t cs i).run P w = .ok v w := by
  have : (isAgg t).run P w = .ok false w := by
    cases td <;> cases k <;> simp [ekB] at hk <;> simp [isAgg, underlying, hu]
  simp [part, this, hv]
theorem eqFields_run {P : Program} (d : Nat) (xs ys : Array Value) (w : World) : ∀ (fs : List Field) (ks : List EK) (i : Nat) (us vs : List Value), eqFieldsB P i fs ks = true → hasAll ks us = true → hasAll ks vs = true →
    (∀ j v, us[j]? = some v → xs[i + j]? = some v) → (∀ j v, vs[j]? = some v → ys[i + j]? = some v) → (Op.eqFields (d + 1) xs ys fs).run P w = .ok (eqAll us vs) w
  | [], ks, i, us, vs, hf, hu, hv, _, _ => by
    cases ks with
    | nil =>
      cases us <;> simp [hasAll] at hu
      cases vs <;> simp [hasAll] at hv
      simp [Op.eqFields, eqAll]
    | cons k ks => simp [eqFieldsB] at hf
  | f :: fs, ks, i, us, vs, hf, hu, hv, h1, h2 => by
    cases ks with
    | nil => simp [eqFieldsB] at hf
    | cons k ks =>
      simp only [eqFieldsB, Bool.and_eq_true, bne_iff_ne, beq_iff_eq] at hf
      obtain ⟨⟨⟨hn, ho⟩, ht⟩, hr⟩ := hf
      split at ht
      · rename_i td htd
        cases us with
        | nil => simp [hasAll] at hu
        | cons u us =>
          cases vs with
          | nil => simp [hasAll] at hv
          | cons v vs =>
            simp only [hasAll, Bool.and_eq_true] at hu hv
            have e1 := part_leaf htd ht (by simpa [ho] using h1 0 u rfl : xs[f.offset]? = some u) w
            have e2 := part_leaf htd ht (by simpa [ho] using h2 0 v rfl : ys[f.offset]? = some v) w
            have e3 := equalIn_leaf d htd ht hu.1 hv.1 w
            have ih := eqFields_run d xs ys w fs ks (i + 1) us vs hr hu.2 hv.2 (fun j x hj => by rw [show i + 1 + j = i + (j + 1) by omega]; exact h1 (j + 1) x (by simpa using hj)) (fun j x hj => by rw [show i + 1 + j = i + (j + 1) by omega]; exact h2 (j + 1) x (by simpa using hj))
            rw [Op.eqFields, if_pos hn]
            simp only [Sem.run_bind, e1, e2, e3, Result.andThen_ok, eqAll]
            cases valEq u v
            · simp
            · simpa using ih
      · cases ht
theorem eqOk_of {P : Program} {t : TypeId} {ks : List EK} (h : eqB P t ks = true) : EqOk P t ks := by
  unfold eqB at h
  simp only [Bool.and_eq_true, Bool.not_eq_true'] at h
  obtain ⟨⟨h1, h2⟩, h3⟩ := h
  split at h1
  · rename_i fs hu
    intro xs ys w hx hy
    refine ⟨fun x y => ?_, ?_⟩
    · constructor <;> simp [eqGuard, h3]
    · have hf : P.fieldsOf t = fs := by simp [Program.fieldsOf, hu]
      show (Op.equalIn (9999 + 1) t (.agg ⟨xs⟩) (.agg ⟨ys⟩)).run P w = _
      rw [run_equalIn_struct (P := P) w 9999 t ⟨xs⟩ ⟨ys⟩ (by rw [hf]; exact hu) h2, hf]
      exact eqFields_run 9998 ⟨xs⟩ ⟨ys⟩ w fs.toList ks 0 xs ys h1 hx hy (by simp) (by simp)
  · cases h1
def eqFields2B (P : Program) : Nat → List Field → List EK → Bool
  | _, [], [] => true
  | i, f :: fs, ks => f.name != "_" && f.offset == i && (match P.underlying f.type with
      | some (.struct gs) => (match P.info? f.type with
          | some inf => eqFieldsB P 0 gs.toList (ks.take inf.size) && decide (inf.size ≤ ks.length) && !P.stoodInHeld f.type && eqFields2B P (i + inf.size) fs (ks.drop inf.size)
          | none => false)
      | some d => (match ks with | k :: ks' => ekB d k && eqFields2B P (i + 1) fs ks' | [] => false)
      | none => false)
  | _, _, _ => false
def eqB2 (P : Program) (t : TypeId) (ks : List EK) : Bool :=
  (match P.underlying t with | some (.struct fs) => eqFields2B P 0 fs.toList ks | _ => false) && !P.stoodInHeld t && !P.eqGuardType P.depth t
theorem hasAll_len : ∀ {ks : List EK} {vs : List Value}, hasAll ks vs = true → vs.length = ks.length
  | [], [], _ => rfl
  | [], _ :: _, h => by simp [hasAll] at h
  | _ :: _, [], h => by simp [hasAll] at h
  | k :: ks, v :: vs, h => by
    simp only [hasAll, Bool.and_eq_true] at h
    rw [List.length_cons, List.length_cons, hasAll_len h.2]
theorem hasAll_take : ∀ (n : Nat) {ks : List EK} {vs : List Value}, hasAll ks vs = true → hasAll (ks.take n) (vs.take n) = true ∧ hasAll (ks.drop n) (vs.drop n) = true
  | 0, ks, vs, h => ⟨by simp [hasAll], by simpa using h⟩
  | n + 1, [], [], _ => ⟨rfl, rfl⟩
  | n + 1, [], _ :: _, h => by simp [hasAll] at h
  | n + 1, _ :: _, [], h => by simp [hasAll] at h
  | n + 1, k :: ks, v :: vs, h => by
    simp only [hasAll, Bool.and_eq_true] at h
    obtain ⟨h1, h2⟩ := hasAll_take n h.2
    exact ⟨by simp only [List.take_succ_cons, hasAll, Bool.and_eq_true]; exact ⟨h.1, h1⟩, by simpa using h2⟩
theorem eqAll_split : ∀ (n : Nat) (us vs : List Value), us.length = vs.length → eqAll us vs = (eqAll (us.take n) (vs.take n) && eqAll (us.drop n) (vs.drop n))
  | 0, us, vs, _ => by simp [eqAll]
  | n + 1, [], [], _ => rfl
  | n + 1, [], _ :: _, h => by simp at h
  | n + 1, _ :: _, [], h => by simp at h
  | n + 1, u :: us, v :: vs, h => by
    simp only [List.take_succ_cons, List.drop_succ_cons, eqAll]
    rw [eqAll_split n us vs (by simpa using h), Bool.and_assoc]
theorem part_struct {P : Program} {t : TypeId} {fs : Array Field} (hu : P.underlying t = some (.struct fs)) {inf : TypeInfo} (hi : P.info? t = some inf) (cs : Array Value) (i : Nat) (w : World) : (part t cs i).run P w = .ok (.agg (cs.extract i (i + inf.size))) w := by
  have h1 : (isAgg t).run P w = .ok true w := by simp [isAgg, underlying, hu]
  have h2 : (sizeOf t).run P w = .ok inf.size w := by simp [sizeOf, typeInfo, hi]
  simp [part, h1, h2]
theorem ext_list (xs : Array Value) (us : List Value) (i n : Nat) (hn : n ≤ us.length) (h : ∀ j v, us[j]? = some v → xs[i + j]? = some v) : xs.extract i (i + n) = ⟨us.take n⟩ := by
  apply Array.ext_getElem?
  intro j
  rw [Array.getElem?_extract]
  simp only [List.getElem?_toArray, List.getElem?_take]
  by_cases hj : j < n
  · have hv : us[j]? = some us[j] := List.getElem?_eq_getElem (by omega)
    have h2 := h j _ hv
    obtain ⟨hlt, _⟩ := Array.getElem?_eq_some_iff.1 h2
    rw [if_pos (by omega), if_pos hj, h2, hv]
  · rw [if_neg hj]
    rw [if_neg (by omega)]
theorem eqFields2_run {P : Program} (d : Nat) (xs ys : Array Value) (w : World) : ∀ (fs : List Field) (ks : List EK) (i : Nat) (us vs : List Value), eqFields2B P i fs ks = true → hasAll ks us = true → hasAll ks vs = true →
    (∀ j v, us[j]? = some v → xs[i + j]? = some v) → (∀ j v, vs[j]? = some v → ys[i + j]? = some v) → (Op.eqFields (d + 2) xs ys fs).run P w = .ok (eqAll us vs) w
  | [], ks, i, us, vs, hf, hu, hv, _, _ => by
    cases ks with
    | nil =>
      cases us <;> simp [hasAll] at hu
      cases vs <;> simp [hasAll] at hv
      simp [Op.eqFields, eqAll]
    | cons k ks => simp [eqFields2B] at hf
  | f :: fs, ks, i, us, vs, hf, hu, hv, h1, h2 => by
    rw [eqFields2B] at hf
    simp only [Bool.and_eq_true, bne_iff_ne, beq_iff_eq] at hf
    obtain ⟨⟨hn, ho⟩, ht⟩ := hf
    split at ht
    · rename_i gs hgs
      split at ht
      · rename_i inf hinf
        simp only [Bool.and_eq_true, decide_eq_true_eq, Bool.not_eq_true'] at ht
        obtain ⟨⟨⟨ht, hle⟩, hst⟩, hr⟩ := ht
        have lu := hasAll_len hu
        have lv := hasAll_len hv
        obtain ⟨u1, u2⟩ := hasAll_take inf.size hu
        obtain ⟨v1, v2⟩ := hasAll_take inf.size hv
        have p1 := part_struct hgs hinf xs f.offset w
        have p2 := part_struct hgs hinf ys f.offset w
        rw [ho, ext_list xs us i inf.size (by omega) h1] at p1
        rw [ho, ext_list ys vs i inf.size (by omega) h2] at p2
        have hfo : P.fieldsOf f.type = gs := by simp [Program.fieldsOf, hgs]
        have e3 : (Op.equalIn (d + 2) f.type (.agg ⟨us.take inf.size⟩) (.agg ⟨vs.take inf.size⟩)).run P w = .ok (eqAll (us.take inf.size) (vs.take inf.size)) w := by
          show (Op.equalIn ((d + 1) + 1) f.type _ _).run P w = _
          rw [run_equalIn_struct (P := P) w (d + 1) f.type ⟨us.take inf.size⟩ ⟨vs.take inf.size⟩ (by rw [hfo]; exact hgs) hst, hfo]
          exact eqFields_run d _ _ w gs.toList _ 0 _ _ ht u1 v1 (by intro j x hj; simpa using hj) (by intro j x hj; simpa using hj)
        have ih := eqFields2_run d xs ys w fs _ (i + inf.size) _ _ hr u2 v2 (fun j x hj => by rw [List.getElem?_drop] at hj; rw [Nat.add_assoc]; exact h1 _ _ hj) (fun j x hj => by rw [List.getElem?_drop] at hj; rw [Nat.add_assoc]; exact h2 _ _ hj)
        rw [Op.eqFields, if_pos hn]
        rw [eqAll_split inf.size us vs (by omega)]
        rw [← ho] at p1 p2
        simp only [Sem.run_bind, p1, p2, e3, Result.andThen_ok]
        cases eqAll (us.take inf.size) (vs.take inf.size)
        · simp
        · simpa using ih
      · cases ht
    · rename_i td hns htd
      split at ht
      · rename_i k ks'
        simp only [Bool.and_eq_true] at ht
        obtain ⟨ht, hr⟩ := ht
        cases us with
        | nil => simp [hasAll] at hu
        | cons u us =>
          cases vs with
          | nil => simp [hasAll] at hv
          | cons v vs =>
            simp only [hasAll, Bool.and_eq_true] at hu hv
            have e1 := part_leaf htd ht (by simpa [ho] using h1 0 u rfl : xs[f.offset]? = some u) w
            have e2 := part_leaf htd ht (by simpa [ho] using h2 0 v rfl : ys[f.offset]? = some v) w
            have e3 := equalIn_leaf (d + 1) htd ht hu.1 hv.1 w
            have ih := eqFields2_run d xs ys w fs ks' (i + 1) us vs hr hu.2 hv.2 (fun j x hj => by rw [show i + 1 + j = i + (j + 1) by omega]; exact h1 (j + 1) x (by simpa using hj)) (fun j x hj => by rw [show i + 1 + j = i + (j + 1) by omega]; exact h2 (j + 1) x (by simpa using hj))
            rw [Op.eqFields, if_pos hn]
            simp only [Sem.run_bind, e1, e2, e3, Result.andThen_ok, eqAll]
            cases valEq u v
            · simp
            · simpa using ih
      · cases ht
    · cases ht
theorem eqOk_of2 {P : Program} {t : TypeId} {ks : List EK} (h : eqB2 P t ks = true) : EqOk P t ks := by
  unfold eqB2 at h
  simp only [Bool.and_eq_true, Bool.not_eq_true'] at h
  obtain ⟨⟨h1, h2⟩, h3⟩ := h
  split at h1
  · rename_i fs hu
    intro xs ys w hx hy
    refine ⟨fun x y => ?_, ?_⟩
    · constructor <;> simp [eqGuard, h3]
    · have hf : P.fieldsOf t = fs := by simp [Program.fieldsOf, hu]
      show (Op.equalIn (9999 + 1) t (.agg ⟨xs⟩) (.agg ⟨ys⟩)).run P w = _
      rw [run_equalIn_struct (P := P) w 9999 t ⟨xs⟩ ⟨ys⟩ (by rw [hf]; exact hu) h2, hf]
      exact eqFields2_run 9997 ⟨xs⟩ ⟨ys⟩ w fs.toList ks 0 xs ys h1 hx hy (by simp) (by simp)
  · cases h1
inductive TT where
  | nil
  | node (l : TT) (t : TypeId) (ti : TI) (r : TT)
def TT.get : TT → TypeId → Option TI
  | .nil, _ => none
  | .node l k ti r, t => match Nat.blt t k with
    | true => l.get t
    | false => (match Nat.blt k t with | true => r.get t | false => some ti)
def TT.all (p : TypeId → TI → Bool) : TT → Bool
  | .nil => true
  | .node l k ti r => p k ti && l.all p && r.all p
theorem TT.get_all {p : TypeId → TI → Bool} : ∀ {x : TT} {t : TypeId} {ti : TI}, x.all p = true → x.get t = some ti → p t ti = true
  | .nil, t, ti, _, h => by cases h
  | .node l k tk r, t, ti, ha, h => by
    simp only [TT.all, Bool.and_eq_true] at ha
    simp only [TT.get] at h
    split at h
    · exact TT.get_all ha.1.2 h
    · rename_i h1
      split at h
      · exact TT.get_all ha.2 h
      · rename_i h2
        cases h
        have e1 : ¬ t < k := by intro hc; have := Nat.blt_eq.symm.mp hc; rw [this] at h1; cases h1
        have e2 : ¬ k < t := by intro hc; have := Nat.blt_eq.symm.mp hc; rw [this] at h2; cases h2
        obtain rfl : t = k := Nat.le_antisymm (Nat.le_of_not_lt e2) (Nat.le_of_not_lt e1)
        exact ha.1.1
theorem tOk_of {P : Program} {x : TT} (h : (x.all fun t ti => tiB P t ti && (ti.eqs.isEmpty || eqB P t ti.eqs || eqB2 P t ti.eqs)) = true) : TOk P x.get := by
  have hb : ∀ {t ti}, x.get t = some ti → tiB P t ti = true ∧ (ti.eqs.isEmpty || eqB P t ti.eqs || eqB2 P t ti.eqs) = true := by
    intro t ti ht
    have := TT.get_all h ht
    simpa only [Bool.and_eq_true] using this
  refine ⟨fun t ti ht => tiOk_of (hb ht).1, fun t ti ht hne => ?_⟩
  have h3 := (hb ht).2
  rw [Bool.or_eq_true, Bool.or_eq_true] at h3
  rcases h3 with (h3 | h3) | h3
  · exact absurd (List.isEmpty_iff.1 h3) hne
  · exact eqOk_of h3
  · exact eqOk_of2 h3
end Go.Sx
