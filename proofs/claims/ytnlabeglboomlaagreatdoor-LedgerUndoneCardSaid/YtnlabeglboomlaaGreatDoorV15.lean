/- A part of a proof; the last text of this claim says of what. -/
import Derived.Test.YtnlabeglboomlaaGreatDoorV14
set_option linter.unusedVariables false
set_option linter.unusedSimpArgs false
set_option linter.unusedSectionVars false
namespace Go.Sx
open Go Go.RowKit Go.Shelf Go.Proofs
inductive Kind (S : Hp → Hp → Prop) (h h' : Hp) : Mem → Prop
  | pure (m : Mem) (h0 : h' = h) (hk : ∀ k, S k k) : Kind S h h' m
  | new (nm : Nat) (x : TypeId × List PV) (h0 : h nm = none) (h1 : h' = upd h nm (some x)) (hk : ∀ k, k nm = none → S k (upd k nm (some x))) : Kind S h h' .no
  | load (nm : Nat) (q : TypeId × List PV) (h0 : h nm = some q) (h1 : h' = h) (hk : ∀ k, k nm = some q → S k k) : Kind S h h' (.load (some nm))
  | store (nm : Nat) (q q' : TypeId × List PV) (h0 : h nm = some q) (h1 : h' = upd h nm (some q')) (hk : ∀ k, k nm = some q → S k (upd k nm (some q'))) : Kind S h h' (.store (some nm))
section
variable {P : Program} {G : World → Prop} {T : Tab} {ρ : Rws} {N : Nat} {e e' : Env} {h h' : Hp} {o : Oper} {v : SV} {ops : Array Oper}
def memE (e : Env) (o : Oper) : Mem :=
  match o.op with
  | .load _ x => .load (match evO e x with | .box nm _ => some nm | _ => none)
  | .store _ x _ => .store (match evO e x with | .box nm _ => some nm | _ => none)
  | _ => .no
theorem Sop_kind (hw : Wf e h) (hs : Sop P G T ρ o e h v h') : Kind (fun k k' => Sop P G T ρ o e k v k') h h' (memE e o) := by
  have hs0 := hs
  unfold Sop at hs
  have pure_ : (∀ k, Sop P G T ρ o e k v k) → h' = h → Kind (fun k k' => Sop P G T ρ o e k v k') h h' (memE e o) := fun hk h0 => Kind.pure _ h0 hk
  split at hs
  case h_24 => exact hs.elim
  all_goals (rename_i ho)
  case h_4 t =>
    obtain ⟨nm, ti, h0, h1, h2, rfl, rfl⟩ := hs
    have hm : memE e o = .no := by unfold memE; rw [ho]
    rw [hm]
    exact Kind.new nm (t, ti.zero) h2 rfl (fun k hk => by unfold Sop; rw [ho]; exact ⟨nm, ti, h0, h1, hk, rfl, rfl⟩)
  case h_5 t x =>
    obtain ⟨nm, y, cs, h0, h1, h2, h3, rfl, rfl⟩ := hs
    have hm : memE e o = .no := by unfold memE; rw [ho]
    rw [hm]
    exact Kind.new nm (t, cs) h3 rfl (fun k hk => by unfold Sop; rw [ho]; exact ⟨nm, y, cs, h0, h1, h2, hk, rfl, rfl⟩)
  case h_6 t x =>
    obtain ⟨rfl, hp, ti, y, h1, h2, rfl⟩ := hs
    have other : (∀ k, cellsAt ρ k (evO e x) = cellsAt ρ h' (evO e x)) → Kind (fun k k' => Sop P G T ρ o e k (.p y) k') h' h' (memE e o) := by
      intro hc
      refine pure_ (fun k => ?_) rfl
      unfold Sop; rw [ho]
      exact ⟨rfl, hp, ti, y, h1, by rw [hc]; exact h2, rfl⟩
    cases hx : evO e x with
    | p y => exact other (fun k => by rw [hx]; cases y <;> rfl)
    | any => exact other (fun k => by rw [hx]; rfl)
    | orow nm => exact other (fun k => by rw [hx]; rfl)
    | rowp nm off => exact other (fun k => by rw [hx]; rfl)
    | box nm off =>
      have hn := hw.ev hx
      cases hq : h' nm with
      | none => exact absurd hq hn
      | some q =>
        have hm : memE e o = .load (some nm) := by unfold memE; rw [ho]; simp only [hx]
        rw [hm]
        refine Kind.load nm q hq rfl (fun k hk => ?_)
        unfold Sop; rw [ho]
        refine ⟨rfl, hp, ti, y, h1, ?_, rfl⟩
        rw [hx] at h2 ⊢
        simp only [cellsAt, hq] at h2
        simp only [cellsAt, hk]
        exact h2
  case h_7 t x y =>
    obtain ⟨ti, nm, off, T0, cs, z, zs, h1, hx, h2, h3, h4, h5, h6, h7, rfl, rfl⟩ := hs
    have hm : memE e o = .store (some nm) := by unfold memE; rw [ho]; simp only [hx]
    rw [hm]
    refine Kind.store nm (T0, cs) _ h2 rfl (fun k hk => ?_)
    unfold Sop; rw [ho]
    exact ⟨ti, nm, off, T0, cs, z, zs, h1, hx, hk, h3, h4, h5, h6, h7, rfl, rfl⟩
  case h_22 c =>
    obtain ⟨h0, hs⟩ := hs
    exact pure_ (fun k => by unfold Sop; rw [ho]; exact ⟨rfl, hs⟩) h0
  case h_1 x => exact pure_ (fun k => by unfold Sop; rw [ho]; exact ⟨hs.1, rfl⟩) hs.2
  case h_2 x => exact pure_ (fun k => by unfold Sop; rw [ho]; exact ⟨hs.1, rfl⟩) hs.2
  case h_3 =>
    obtain ⟨t, h1, h2, h3⟩ := hs
    exact pure_ (fun k => by unfold Sop; rw [ho]; exact ⟨t, h1, h2, rfl⟩) h3
  all_goals exact pure_ (fun k => by unfold Sop; rw [ho]; exact ⟨rfl, hs.2⟩) hs.1
theorem shift_box {n : Nat} {s : SV} {nm off : Nat} (h : shiftS n s = .box nm off) : ∃ o, s = .box nm o := by
  cases s with
  | box m o => simp only [shiftS, SV.box.injEq] at h; exact ⟨o, by rw [h.1]⟩
  | p x => cases x <;> cases h
  | _ => cases h
theorem ite_box {t : Bool} {x y : SV} {nm off : Nat} (h : (if t then x else y) = .box nm off) : x = .box nm off ∨ y = .box nm off := by
  cases t
  · exact .inr h
  · exact .inl h
theorem Sop_wf (hw : Wf e h) (hs : Sop P G T ρ o e h v h') : (∀ nm, h nm ≠ none → h' nm ≠ none) ∧ ∀ nm off, v = .box nm off → h' nm ≠ none := by
  have hk := Sop_kind hw hs
  have hkeep : ∀ nm, h nm ≠ none → h' nm ≠ none := by
    intro nm hn
    generalize memE e o = m0 at hk
    cases hk with
    | pure _ h0 _ => rw [h0]; exact hn
    | new m x h0 h1 _ =>
      rw [h1]
      by_cases e1 : nm = m
      · subst e1; rw [upd_same]; simp
      · rw [upd_ne _ _ e1]; exact hn
    | load m q h0 h1 _ => rw [h1]; exact hn
    | store m q q' h0 h1 _ =>
      rw [h1]
      by_cases e1 : nm = m
      · subst e1; rw [upd_same]; simp
      · rw [upd_ne _ _ e1]; exact hn
  refine ⟨hkeep, ?_⟩
  intro nm off hv
  unfold Sop at hs
  split at hs
  case h_24 => exact hs.elim
  all_goals (rename_i ho)
  case h_1 x => exact hkeep nm (hw.ev (hs.1.symm.trans hv))
  case h_2 x => exact hkeep nm (hw.ev (hs.1.symm.trans hv))
  case h_3 c x y =>
    obtain ⟨t, h1, h2, h3⟩ := hs
    rcases ite_box (h2.symm.trans hv) with h4 | h4
    · exact hkeep nm (hw.ev h4)
    · exact hkeep nm (hw.ev h4)
  case h_4 t =>
    obtain ⟨m, ti, h0, h1, h2, h3, rfl⟩ := hs
    rw [h3] at hv; cases hv
    rw [upd_same]; simp
  case h_5 t x =>
    obtain ⟨m, y, cs, h0, h1, h2, h3, h4, rfl⟩ := hs
    rw [h4] at hv; cases hv
    rw [upd_same]; simp
  case h_6 => obtain ⟨_, _, ti, y, _, _, h4⟩ := hs; rw [h4] at hv; cases hv
  case h_7 => obtain ⟨ti, m, off, T0, cs, z, zs, h1, hx, h2, h3, h4, h5, h6, h7, _, h8⟩ := hs; rw [h8] at hv; cases hv
  case h_8 =>
    obtain ⟨_, ti, of, tf, _, _, _, _, h4⟩ := hs
    obtain ⟨o1, h5⟩ := shift_box (h4.symm.trans hv)
    exact hkeep nm (hw.ev h5)
  case h_9 => obtain ⟨_, ti, of, tf, cs, y, _, _, _, _, _, h4⟩ := hs; rw [h4] at hv; cases hv
  case h_10 => obtain ⟨_, p, q, c, _, _, _, h4⟩ := hs; rw [h4] at hv; cases hv
  case h_11 => rcases hs.2 with ⟨b, _, _, h4⟩ | ⟨k, n, _, _, h4⟩ <;> (rw [h4] at hv; cases hv)
  case h_12 => obtain ⟨_, ti, kt, te, l, n, g, _, _, _, _, _, _, _, _, h4⟩ := hs; rw [h4] at hv; cases hv
  case h_13 => obtain ⟨_, vs, y, _, _, h4⟩ := hs; rw [h4] at hv; cases hv
  case h_14 => obtain ⟨_, ts, td, _, _, h4⟩ := hs; rcases h4 with ⟨k, n, _, _, h4⟩ | ⟨_, _, y, _, h4⟩ | ⟨el, te, n, cs, l, _, _, _, _, _, _, _, _, h4⟩ <;> (rw [h4] at hv; cases hv)
  case h_15 => obtain ⟨_, ti, ps, cs, _, _, _, _, h4⟩ := hs; rw [h4] at hv; cases hv
  case h_16 => obtain ⟨_, ti, el, te, ps, cs, _, _, _, _, _, _, _, _, h4⟩ := hs; rw [h4] at hv; cases hv
  case h_17 => obtain ⟨_, ti, k, n, _, _, h4⟩ := hs; rcases h4 with ⟨s, c, _, _, _, h4⟩ | ⟨len, el, te, cs, y, _, _, _, _, _, _, h4⟩ <;> (rw [h4] at hv; cases hv)
  case h_18 =>
    obtain ⟨_, ti, k, n, _, _, h4⟩ := hs
    rcases h4 with ⟨el, te, len, cs, _, _, _, _, _, h4⟩ | ⟨el, te, len, _, _, _, _, h4⟩ | ⟨el, te, m, q, _, _, _, _, _, h4⟩
    · rw [h4] at hv; cases hv
    · obtain ⟨o1, h5⟩ := shift_box (h4.symm.trans hv)
      exact hkeep nm (hw.ev h5)
    · rw [h4] at hv; cases hv
  case h_19 => obtain ⟨_, ti, l, m, _, _, _, _, h4⟩ := hs; rcases h4 with ⟨s, _, _, _, _, _, h4⟩ | ⟨el, te, len, cs, _, _, _, _, _, _, h4⟩ | ⟨el, te, len, cs, _, _, _, _, _, _, h4⟩ <;> (rw [h4] at hv; cases hv)
  case h_23 x => exact hkeep nm (hw.ev (hs.2.2.symm.trans hv))
  case h_20 => obtain ⟨_, fs, cs, _, _, h4⟩ := hs; rw [h4] at hv; cases hv
  case h_21 => obtain ⟨_, ti, el, te, k, k', n, _, _, _, _, _, _, _, _, h4⟩ := hs; rw [h4] at hv; cases hv
  case h_22 c =>
    obtain ⟨h0, hs⟩ := hs
    split at hs
    · obtain ⟨t, x, ti, _, _, _, h4⟩ := hs; rcases h4 with ⟨s, _, _, h4⟩ | ⟨n, cs, el, _, _, h4⟩ | ⟨m, q, el, _, _, _, h4⟩ <;> (rw [h4] at hv; cases hv)
    · obtain ⟨x, y, k, m, n, _, _, _, h4⟩ := hs; rw [h4] at hv; cases hv
    · obtain ⟨x, y, k, m, n, _, _, _, h4⟩ := hs; rw [h4] at hv; cases hv
    · obtain ⟨s, x, t, ti, el, te, n, m, cs, news, _, _, _, _, _, _, _, _, _, _, _, _, _, h4⟩ := hs; rw [h4] at hv; cases hv
    · obtain ⟨g, fs, cs, args, y, _, _, _, h4⟩ := hs; rw [h4] at hv; cases hv
    · cases hs
end
end Go.Sx
