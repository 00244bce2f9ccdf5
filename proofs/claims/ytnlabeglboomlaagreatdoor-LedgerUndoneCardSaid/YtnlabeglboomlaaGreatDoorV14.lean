/- A part of a proof; the last text of this claim says of what. -/
import Derived.Test.YtnlabeglboomlaaGreatDoorV13
set_option linter.unusedVariables false
set_option linter.unusedSimpArgs false
set_option linter.unusedSectionVars false
namespace Go.Sx
open Go Go.RowKit Go.Shelf Go.Proofs
section
variable {P : Program} {G : World → Prop} {T : Tab} {ρ : Rws} {N : Nat} {e e' : Env} {h h' : Hp} {o : Oper} {v : SV} {ops : Array Oper}
def Wf (e : Env) (h : Hp) : Prop := ∀ t nm off, e t = .box nm off → h nm ≠ none
theorem Wf.ev (hw : Wf e h) {x : Operand} {nm off : Nat} (hx : evO e x = .box nm off) : h nm ≠ none := by
  cases x with
  | tmp t => exact hw t nm off hx
  | const v => cases hx
  | func f => cases hx
  | global g => cases hx
theorem ev_congr {x : Operand} (he : ∀ t, x = .tmp t → e' t = e t) : evO e' x = evO e x := by
  cases x with
  | tmp t => exact he t rfl
  | _ => rfl
theorem evPs_congr : ∀ (xs : List Operand), (∀ x ∈ xs, evO e' x = evO e x) → evPs e' xs = evPs e xs
  | [], _ => rfl
  | x :: xs, hx => by
    rw [evPs, evPs, hx x (List.mem_cons_self ..), evPs_congr xs fun y hy => hx y (List.mem_cons_of_mem _ hy)]
theorem partsP_congr : ∀ (xs : List (Nat × Operand)), (∀ x ∈ xs, evO e' x.2 = evO e x.2) → partsP e' xs = partsP e xs
  | [], _ => rfl
  | (i, x) :: xs, hx => by
    rw [partsP, partsP, hx (i, x) (List.mem_cons_self ..), partsP_congr xs fun y hy => hx y (List.mem_cons_of_mem _ hy)]
theorem Sop_env (he : ∀ x ∈ o.op.operands.toList, evO e' x = evO e x) (hs : Sop P G T ρ o e h v h') : Sop P G T ρ o e' h v h' := by
  unfold Sop at hs ⊢
  split at hs
  case h_24 => exact hs.elim
  all_goals (rename_i ho; rw [ho] at he; simp only [Op.operands] at he)
  case h_1 => rw [he _ (by simp)]; exact hs
  case h_2 => rw [he _ (by simp)]; exact hs
  case h_3 c x y => rw [he c (by simp), he x (by simp), he y (by simp)]; exact hs
  case h_4 => exact hs
  case h_5 => rw [he _ (by simp)]; exact hs
  case h_6 => rw [he _ (by simp)]; exact hs
  case h_7 t x y => rw [he x (by simp), he y (by simp)]; exact hs
  case h_8 => rw [he _ (by simp)]; exact hs
  case h_9 => rw [he _ (by simp)]; exact hs
  case h_10 op t x y t' => rw [he x (by simp), he y (by simp)]; exact hs
  case h_11 => rw [he _ (by simp)]; exact hs
  case h_12 t x i ok => rw [he x (by simp), he i (by simp)]; exact hs
  case h_13 => rw [he _ (by simp)]; exact hs
  case h_14 => rw [he _ (by simp)]; exact hs
  case h_15 t parts => rw [partsP_congr parts.toList (fun x hx => he _ (by simp at hx ⊢; exact ⟨x.1, hx⟩))]; exact hs
  case h_16 t n parts => rw [partsP_congr parts.toList (fun x hx => he _ (by simp at hx ⊢; exact ⟨x.1, hx⟩))]; exact hs
  case h_17 t x i => rw [he x (by simp), he i (by simp)]; exact hs
  case h_18 t x i => rw [he x (by simp), he i (by simp)]; exact hs
  case h_19 t x lo hi mx =>
    have hb : ∀ (y : Option Operand) (d : Int), (∀ z, y = some z → evO e' z = evO e z) → bndP e' y d = bndP e y d := by
      intro y d hy
      cases y with
      | none => rfl
      | some z => simp only [bndP, hy z rfl]
    have h1 : ∀ d, bndP e' lo d = bndP e lo d := fun d => hb lo d (by intro z hz; subst hz; exact he z (by simp))
    have h2 : ∀ d, bndP e' hi d = bndP e hi d := fun d => hb hi d (by intro z hz; subst hz; exact he z (by simp))
    simp only [h1, h2]
    rw [he x (by simp)]; exact hs
  case h_20 f first captured =>
    rw [evPs_congr first.toList (fun x hx => he _ (by simp at hx ⊢; exact .inl hx)), evPs_congr captured.toList (fun x hx => he _ (by simp at hx ⊢; exact .inr hx))]; exact hs
  case h_21 t l c => rw [he l (by simp), he c (by simp)]; exact hs
  case h_22 c =>
    have hx : ∀ x ∈ c.args.toList, evO e' x = evO e x := fun x hx => he x (by simp [Call.operands]; exact .inr (by simpa using hx))
    obtain ⟨h0, hs⟩ := hs
    refine ⟨h0, ?_⟩
    split at hs
    · obtain ⟨t, x, ti, h1, h2, h3, h4⟩ := hs
      rw [← hx x (by rw [h2]; simp)] at h4
      exact ⟨t, x, ti, h1, h2, h3, h4⟩
    · obtain ⟨x, y, k, m, n, h1, h2, h3, h4⟩ := hs
      rw [← hx x (by rw [h1]; simp)] at h2
      rw [← hx y (by rw [h1]; simp)] at h3
      exact ⟨x, y, k, m, n, h1, h2, h3, h4⟩
    · obtain ⟨x, y, k, m, n, h1, h2, h3, h4⟩ := hs
      rw [← hx x (by rw [h1]; simp)] at h2
      rw [← hx y (by rw [h1]; simp)] at h3
      exact ⟨x, y, k, m, n, h1, h2, h3, h4⟩
    · obtain ⟨s, x, t, ti, el, te, n, m, cs, news, h1, h2, h3, h4, h5, h6, h7, h8⟩ := hs
      rw [← hx s (by rw [h1]; simp)] at h6
      rw [← hx x (by rw [h1]; simp)] at h7
      exact ⟨s, x, t, ti, el, te, n, m, cs, news, h1, h2, h3, h4, h5, h6, h7, h8⟩
    · rename_i f hc
      obtain ⟨g, fs, cs, args, y, h1, h2, h3⟩ := hs
      rw [← he f (by simp [Call.operands, hc])] at h1
      rw [← evPs_congr c.args.toList hx] at h2
      exact ⟨g, fs, cs, args, y, h1, h2, h3⟩
    · cases hs
  case h_23 => rw [he _ (by simp)]; exact hs
end
end Go.Sx
