/- A part of a proof; the last text of this claim says of what. -/
import Derived.Test.YtnlabeglboomlaaGreatDoorV10
set_option linter.unusedVariables false
set_option linter.unusedSimpArgs false
set_option linter.unusedSectionVars false
namespace Go.Sx
open Go Go.RowKit Go.Shelf Go.Proofs
section
variable {P : Program} {G : World → Prop} {T : Tab} {ζ : Fr} {N : Nat} {own own' : Nat → Nat} {e : Env} {h h' : Hp} {a : Act} {w w' : World} {o : Oper} {v : SV} {next : Act → World → Prop} {Q : Exit → Act → World → Prop}
theorem goes_wp (g : Goes P T ζ N e h' a w o v) (hk : ∀ own' x w', R ζ N own' e h' a w' → RepS ζ own' h' w' v x → next (a.put o.dst x) w') : o.wp P a w next Q := by
  obtain ⟨own', x, w', hr, r', hv⟩ := g
  rcases hr with hr | ⟨hr, rfl⟩
  · unfold Oper.wp; rw [hr]; exact hk own' x w' r' hv
  · unfold Oper.wp; rw [hr]; exact hk own' undef w' r' hv
theorem evPs_rep (r : R ζ N own e h a w) : ∀ (xs : List Operand) (ps : List PV), evPs e xs = some ps → RepL (Bk ζ own h w) w ps (xs.map a.eval)
  | [], ps, hp => by simp only [evPs, Option.some.injEq] at hp; subst hp; simp [RepL]
  | x :: xs, ps, hp => by
    simp only [evPs] at hp
    split at hp
    · rename_i y ys hy hys
      cases hp
      simp only [RepL, List.map_cons]
      exact ⟨_, _, rfl, ev_p r hy, evPs_rep r xs ys hys⟩
    · cases hp
theorem RepL.app {B : Nat → Prop} {ps qs : List PV} {us vs : List Value} (h1 : RepL B w ps us) (h2 : RepL B w qs vs) : RepL B w (ps ++ qs) (us ++ vs) := h1.append h2
theorem call_wp (r : R ζ N own e h a w) (hG : ∀ w', ζ.w.grownBy w' ζ.ob → G w') (c : Call) (f : Operand) (ho : o.op = .call c) (hc : c.callee = .value f) {g : FuncId} {fs cs args : List PV} {y : PV}
    (hf : evO e f = .p (.clo g fs cs)) (ha : evPs e c.args.toList = some args) (hm : Meets P G g (fs ++ args ++ cs) y) (hk : ∀ own' x w', R ζ N own' e h a w' → RepS ζ own' h w' (.p y) x → next (a.put o.dst x) w') : o.wp P a w next Q := by
  have e1 := ev_p r hf
  simp only [RepP] at e1
  obtain ⟨us, vs, e1, hu, hv⟩ := e1
  have h1 := (hu.append (evPs_rep r _ _ ha)).append hv
  have hrun : (execOp a.eval o).run P w = .ok (.enter g ⟨us ++ c.args.toList.map a.eval ++ vs⟩) w := by
    have e2 := hm.ent ⟨us ++ c.args.toList.map a.eval ++ vs⟩ w
    have e3 : (⟨us⟩ : Array Value) ++ c.args.map a.eval ++ ⟨vs⟩ = ⟨us ++ c.args.toList.map a.eval ++ vs⟩ := by apply Array.toList_inj.1; simp
    simp only [execOp, ho, resolve, hc, e1, Deferred.ofValue, Sem.run_bind, Sem.run_pure, Result.andThen_ok, invoke, e3]
    simpa using e2
  unfold Oper.wp
  rw [hrun, Oper.upon_enter]
  refine (hm.calls (Bk ζ own h w) _ w (fun b hb => hb.2.1) h1 (hG w r.below)).mono ?_
  rintro en w' ⟨x, rfl, hx, hb⟩
  have r' := r.grow (grownBy_below hb (Nat.le_refl _) none)
  refine hk own x w' r' ?_
  refine RepP.mono (fun b hb' => ⟨?_, rfl⟩) _ _ hx
  rcases hb'.1 with h3 | h3
  · exact ⟨h3.1, hb'.2, h3.2.2⟩
  · refine ⟨.inr (Nat.le_trans r.below.size h3), hb'.2, fun nm hn => ?_, fun nm hn e1 => ?_, fun e1 => ?_⟩
    · have := r.own_lt hn; omega
    · have := r.row_lt hn e1; omega
    · have := r.obl _ e1; have := r.below.size; omega
end
end Go.Sx
