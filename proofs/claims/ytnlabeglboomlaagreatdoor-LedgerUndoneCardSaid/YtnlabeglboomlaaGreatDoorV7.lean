/- A part of a proof; the last text of this claim says of what. -/
import Derived.Test.YtnlabeglboomlaaGreatDoorV6
set_option linter.unusedVariables false
set_option linter.unusedSimpArgs false
set_option linter.unusedSectionVars false
namespace Go.Sx
open Go Go.RowKit Go.Shelf Go.Proofs
section
variable {P : Program} {t : TypeId} {ti : TI}
theorem TiOk.run_under (k : TiOk P t ti) : ∃ d, (∀ W, (underlying t).run P W = .ok d W) ∧ tdB d ti.d = true ∧ ti.agg = isAggD d := by
  obtain ⟨d, h1, h2, h3⟩ := k.desc
  exact ⟨d, fun W => by simp [underlying, h1], h2, h3⟩
theorem TiOk.run_size (k : TiOk P t ti) (W : World) : (sizeOf t).run P W = .ok ti.size W := by
  obtain ⟨i, z, h1, h2, _⟩ := k.info
  simp [sizeOf, typeInfo, h1, h2]
theorem TiOk.run_zero (k : TiOk P t ti) : ∃ z, (∀ W, (zeroValue t).run P W = .ok z W) ∧ ∀ B w, RepL B w ti.zero z.cells.toList := by
  obtain ⟨i, z, h1, h2, h3, h4⟩ := k.info
  exact ⟨z, fun W => by simp [zeroValue, typeInfo, h1, h3], h4⟩
theorem TiOk.run_isAgg (k : TiOk P t ti) (W : World) : (isAgg t).run P W = .ok ti.agg W := by
  obtain ⟨d, h1, h2, h3⟩ := k.run_under
  rw [h3]
  simp only [isAgg, Sem.run_bind, h1, Result.andThen_ok]
  cases d <;> rfl
theorem add_plain' (b o n : Nat) : (⟨b, o, none⟩ : Addr).add n = ⟨b, o + n, none⟩ := by unfold Addr.add; split <;> simp_all
end
section
variable {P : Program} {G : World → Prop} {T : Tab} {ζ : Fr} {N : Nat} {own own' : Nat → Nat} {e : Env} {h h' : Hp} {a : Act} {w w' : World}
theorem ptr_cells (r : R ζ N own e h a w) {x : Operand} (hp : isPtr (evO e x) = true) :
    ∃ b o vs, a.eval x = .pointer (some ⟨b, o, none⟩) ∧ RepL (Bk ζ own h w) w (cellsAt ζ.ρ h (evO e x)) vs ∧ ∀ j v, vs[j]? = some v → w.cell? ⟨b, o + j, none⟩ = some v := by
  have hx := ev_sound r x
  cases hs : evO e x with
  | any => rw [hs] at hp; cases hp
  | orow nm => rw [hs] at hp; cases hp
  | p y =>
    rw [hs] at hp hx
    cases y with
    | ptr cs =>
      have hx : RepP _ _ _ _ := hx
      simp only [RepP] at hx
      obtain ⟨b, o, e1, _, hr⟩ := hx
      obtain ⟨vs, h1, h2⟩ := hr.vals
      exact ⟨b, o, vs, e1, h1, h2⟩
    | _ => cases hp
  | rowp nm off =>
    rw [hs] at hx
    obtain ⟨hn, g, hg, e1⟩ := hx
    cases hh : ζ.ρ nm with
    | none => exact absurd hh hn
    | some q =>
      obtain ⟨vs, g1, g2, _⟩ := r.row nm q hh
      refine ⟨g, off, vs.drop off, e1, ?_, ?_⟩
      · show RepL _ _ (match ζ.ρ nm with | some q => q.cs.drop off | none => []) _
        rw [hh]
        exact g2.drop off
      · intro j v hj
        rw [List.getElem?_drop] at hj
        have := g1.cells hg _ _ hj
        have hadd : (⟨g, 0, none⟩ : Addr).add (off + j) = ⟨g, 0 + (off + j), none⟩ := add_plain' g 0 (off + j)
        rwa [hadd, Nat.zero_add] at this
  | box nm off =>
    rw [hs] at hx
    obtain ⟨hn, e1⟩ := hx
    cases hh : h nm with
    | none => exact absurd hh hn
    | some q =>
      obtain ⟨T0, cs⟩ := q
      obtain ⟨_, _, vs, g3, g4⟩ := r.box nm T0 cs hh
      refine ⟨own nm, off, vs.drop off, e1, ?_, ?_⟩
      · show RepL _ _ (match h nm with | some (_, cs) => cs.drop off | none => []) _
        rw [hh]
        exact g4.drop off
      · intro j v hj
        simp only [World.cell?, g3]
        simpa using hj
theorem loadVar_run {t : TypeId} {ti : TI} (tk : TiOk P t ti) {b o : Nat} {cs : List PV} {vs : List Value} {B : Nat → Prop} {y : PV} (hr : RepL B w cs vs) (hc : ∀ j v, vs[j]? = some v → w.cell? ⟨b, o + j, none⟩ = some v) (hl : loadP ti cs = some y) :
    ∃ x, (loadVar t ⟨b, o, none⟩).run P w = .ok x w ∧ RepP B w y x := by
  simp only [loadVar, Sem.run_bind, tk.run_isAgg, Result.andThen_ok]
  unfold loadP at hl
  split at hl
  · rename_i hagg
    split at hl
    · rename_i hsz
      cases hl
      have hlen := hr.length
      refine ⟨.agg ⟨vs.take ti.size⟩, ?_, ?_⟩
      · rw [hagg]
        have := run_loadCells_list (P := P) w ⟨b, o, none⟩ (vs.take ti.size) (fun j v hj => by
          rw [add_plain']
          refine hc j v ?_
          rw [List.getElem?_take] at hj
          split at hj
          · exact hj
          · cases hj)
        rw [List.length_take, Nat.min_eq_left (by omega)] at this
        simp [tk.run_size, this]
      · simp only [RepP]
        exact ⟨_, rfl, hr.take _⟩
    · cases hl
  · rename_i hagg
    cases cs with
    | nil => simp at hl
    | cons c cs =>
      simp only [List.head?_cons, Option.some.injEq] at hl
      subst hl
      simp only [RepL] at hr
      obtain ⟨x, xs, rfl, h1, _⟩ := hr
      have := hc 0 x rfl
      simp only [Nat.add_zero] at this
      refine ⟨x, ?_, h1⟩
      simp [hagg, this]
end
end Go.Sx
