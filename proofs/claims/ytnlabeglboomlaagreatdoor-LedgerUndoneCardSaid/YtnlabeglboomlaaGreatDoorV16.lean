/- A part of a proof; the last text of this claim says of what. -/
import Derived.Test.YtnlabeglboomlaaGreatDoorV15
import Derived.Orders
set_option linter.unusedVariables false
set_option linter.unusedSimpArgs false
set_option linter.unusedSectionVars false
namespace Go.Sx
open Go Go.RowKit Go.Shelf Go.Proofs
theorem kind_swap {Sa Sb : Hp → Hp → Prop} {h h1 h2 : Hp} {ma mb : Mem} (ha : Kind Sa h h1 ma) (hb : Kind Sb h1 h2 mb) (sa : Sa h h1) (sb : Sb h1 h2)
    (hbn : ∀ n, (mb = .load (some n) ∨ mb = .store (some n)) → h n ≠ none)
    (hc1 : ∀ n m, ma = .load (some n) → mb = .store (some m) → n ≠ m) (hc2 : ∀ n m, ma = .store (some n) → mb = .load (some m) → n ≠ m) (hc3 : ∀ n m, ma = .store (some n) → mb = .store (some m) → n ≠ m) :
    ∃ h1', Sb h h1' ∧ Sa h1' h2 := by
  cases ha with
  | pure _ e0 hk => subst e0; exact ⟨h2, sb, hk h2⟩
  | new nm x e0 e1 hk =>
    subst e1
    cases hb with
    | pure _ e2 hkb => subst e2; exact ⟨h, hkb h, sa⟩
    | new nm' x' e2 e3 hkb =>
      have hne : nm' ≠ nm := by intro e; subst e; rw [upd_same] at e2; cases e2
      rw [upd_ne _ _ hne] at e2
      refine ⟨upd h nm' (some x'), hkb h e2, ?_⟩
      rw [e3, upd_comm _ _ _ (fun e => hne e.symm)]
      exact hk _ (by rw [upd_ne _ _ (fun e => hne e.symm)]; exact e0)
    | load nm' q e2 e3 hkb =>
      have hne : nm' ≠ nm := by intro e; subst e; exact hbn _ (.inl rfl) e0
      rw [upd_ne _ _ hne] at e2
      subst e3
      exact ⟨h, hkb h e2, sa⟩
    | store nm' q q' e2 e3 hkb =>
      have hne : nm' ≠ nm := by intro e; subst e; exact hbn _ (.inr rfl) e0
      rw [upd_ne _ _ hne] at e2
      refine ⟨upd h nm' (some q'), hkb h e2, ?_⟩
      rw [e3, upd_comm _ _ _ (fun e => hne e.symm)]
      exact hk _ (by rw [upd_ne _ _ (fun e => hne e.symm)]; exact e0)
  | load nm q e0 e1 hk =>
    subst e1
    refine ⟨h2, sb, hk h2 ?_⟩
    cases hb with
    | pure _ e2 hkb => rw [e2]; exact e0
    | new nm' x' e2 e3 hkb =>
      have hne : nm ≠ nm' := by intro e; subst e; rw [e0] at e2; cases e2
      rw [e3, upd_ne _ _ hne]; exact e0
    | load nm' q' e2 e3 hkb => rw [e3]; exact e0
    | store nm' q1 q2 e2 e3 hkb => rw [e3, upd_ne _ _ (hc1 nm nm' rfl rfl)]; exact e0
  | store nm q q' e0 e1 hk =>
    subst e1
    cases hb with
    | pure _ e2 hkb => subst e2; exact ⟨h, hkb h, sa⟩
    | new nm' x' e2 e3 hkb =>
      have hne : nm' ≠ nm := by intro e; subst e; rw [upd_same] at e2; cases e2
      rw [upd_ne _ _ hne] at e2
      refine ⟨upd h nm' (some x'), hkb h e2, ?_⟩
      rw [e3, upd_comm _ _ _ (fun e => hne e.symm)]
      exact hk _ (by rw [upd_ne _ _ (fun e => hne e.symm)]; exact e0)
    | load nm' q1 e2 e3 hkb =>
      have hne := hc2 nm nm' rfl rfl
      rw [upd_ne _ _ (fun e => hne e.symm)] at e2
      subst e3
      exact ⟨h, hkb h e2, sa⟩
    | store nm' q1 q2 e2 e3 hkb =>
      have hne := hc3 nm nm' rfl rfl
      rw [upd_ne _ _ (fun e => hne e.symm)] at e2
      refine ⟨upd h nm' (some q2), hkb h e2, ?_⟩
      rw [e3, upd_comm _ _ _ hne]
      exact hk _ (by rw [upd_ne _ _ hne]; exact e0)
section
variable {P : Program} {G : World → Prop} {T : Tab} {ρ : Rws} {N : Nat} {e e' : Env} {h h' : Hp} {o : Oper} {v : SV} {ops : Array Oper}
theorem StepV_env (he : ∀ t ∈ reads ops o, e' t = e t) (hs : StepV P G T ρ N ops o e h v h') : StepV P G T ρ N ops o e' h v h' := by
  have h1 : ∀ x ∈ o.op.operands.toList, evO e' x = evO e x := by
    intro x hx
    cases x with
    | tmp t => exact he t (by unfold reads; rw [List.mem_append]; left; rw [List.mem_filterMap]; exact ⟨_, hx, rfl⟩)
    | _ => rfl
  unfold StepV at hs ⊢
  split at hs
  · exact Sop_env h1 hs
  · rename_i j want hg
    obtain ⟨d, h2, h4, h5⟩ := hs
    have hed := he d (by unfold reads; rw [List.mem_append]; right; rw [hg]; simp [h2])
    refine ⟨d, h2, h4, ?_⟩
    rw [hed]
    rcases h5 with ⟨b, h3, h5⟩ | h5
    · refine .inl ⟨b, h3, ?_⟩
      split at h5
      · rename_i hb; rw [if_pos hb]; exact Sop_env h1 h5
      · rename_i hb; rw [if_neg hb]; exact h5
    · exact .inr h5
theorem StepV_kind (hw : Wf e h) (hs : StepV P G T ρ N ops o e h v h') : Kind (fun k k' => StepV P G T ρ N ops o e k v k') h h' (memE e o) := by
  have hs0 := hs
  unfold StepV at hs
  split at hs
  · rename_i hg
    have := Sop_kind hw hs
    have e0 : (fun k k' => StepV P G T ρ N ops o e k v k') = (fun k k' => Sop P G T ρ o e k v k') := by
      funext k k'; unfold StepV; rw [hg]
    rw [e0]; exact this
  · rename_i j want hg
    obtain ⟨d, h2, h4, h5⟩ := hs
    rcases h5 with ⟨b, h3, h5⟩ | ⟨h3, rfl, rfl⟩
    case inr => exact Kind.pure _ rfl (fun k => by unfold StepV; rw [hg]; exact ⟨d, h2, h4, .inr ⟨h3, rfl, rfl⟩⟩)
    split at h5
    · rename_i hb
      have := Sop_kind hw h5
      have e0 : (fun k k' => StepV P G T ρ N ops o e k v k') = (fun k k' => Sop P G T ρ o e k v k') := by
        funext k k'; unfold StepV; rw [hg]
        refine propext ⟨?_, fun x => ⟨d, h2, h4, .inl ⟨b, h3, by rw [if_pos hb]; exact x⟩⟩⟩
        rintro ⟨d', g2, g4, ⟨b', g3, g5⟩ | ⟨g3, g5⟩⟩
        · rw [h2] at g2; cases g2
          rw [h3] at g3; cases g3
          rw [if_pos hb] at g5; exact g5
        · rw [h2] at g2; cases g2
          rw [h3] at g3; cases g3
      rw [e0]; exact this
    · rename_i hb
      obtain ⟨rfl, rfl⟩ := h5
      exact Kind.pure _ rfl (fun k => by unfold StepV; rw [hg]; exact ⟨d, h2, h4, .inl ⟨b, h3, by rw [if_neg hb]; exact ⟨rfl, rfl⟩⟩⟩)
theorem StepV_wf (hw : Wf e h) (hs : StepV P G T ρ N ops o e h v h') : (∀ nm, h nm ≠ none → h' nm ≠ none) ∧ ∀ nm off, v = .box nm off → h' nm ≠ none := by
  unfold StepV at hs
  split at hs
  · exact Sop_wf hw hs
  · obtain ⟨d, h2, h4, h5⟩ := hs
    rcases h5 with ⟨b, h3, h5⟩ | ⟨h3, rfl, rfl⟩
    case inr => exact ⟨fun _ x => x, fun nm off e => by cases e⟩
    split at h5
    · exact Sop_wf hw h5
    · obtain ⟨rfl, rfl⟩ := h5
      exact ⟨fun _ x => x, fun nm off e => by cases e⟩
theorem Step_wf (hw : Wf e h) (hs : Step P G T ρ N ops o e h e' h') : Wf e' h' := by
  obtain ⟨_, v, hs, rfl⟩ := hs
  obtain ⟨h1, h2⟩ := StepV_wf hw hs
  intro t nm off ht
  cases hd : o.dst with
  | none => rw [hd] at ht; exact h1 nm (hw t nm off ht)
  | some d =>
    rw [hd] at ht
    simp only [updo] at ht
    by_cases e1 : t = d
    · subst e1; rw [upd_same] at ht; exact h2 nm off ht
    · rw [upd_ne _ _ e1] at ht; exact h1 nm (hw t nm off ht)
def Ag (pl : List (Nat × Nat)) (dsts : List Nat) (e : Env) : Prop := ∀ x nm, placeOf pl dsts x = some nm → ∀ n off, evO e x = .box n off → n = nm
theorem Ag.step {pl : List (Nat × Nat)} {dsts : List Nat} (ha : Ag pl dsts e) (hd : ∀ d, o.dst = some d → d ∈ dsts) (hn : ∀ d, o.dst = some d → pl.contains (d, d) = true → ∀ n off, v = .box n off → n = d) : Ag pl dsts (updo e o.dst v) := by
  intro x nm hx n off hb
  cases hdst : o.dst with
  | none => rw [hdst] at hb; exact ha x nm hx n off hb
  | some d =>
    rw [hdst] at hb
    cases x with
    | tmp t =>
      have hx0 := hx
      unfold placeOf at hx
      dsimp only at hx
      split at hx
      · rename_i hc
        split at hx
        · rename_i hp
          injection hx with hx
          subst hx
          by_cases e1 : t = d
          · subst e1
            simp only [evO, updo, upd_same] at hb
            exact hn t hdst hp n off hb
          · simp only [evO, updo, upd_ne _ _ e1] at hb
            exact ha (.tmp t) t hx0 n off hb
        · cases hx
      · rename_i hc
        have hne : t ≠ d := by
          intro e; subst e
          exact hc (by simpa using hd t hdst)
        simp only [evO, updo, upd_ne _ _ hne] at hb
        exact ha (.tmp t) nm hx0 n off hb
    | _ => simp [placeOf] at hx
theorem Sop_new (hnew : isNewOp o.op = true) (hs : Sop P G T ρ o e h v h') {d : Nat} (hd : o.dst = some d) {n off : Nat} (hv : v = .box n off) : n = d := by
  unfold isNewOp at hnew
  unfold Sop at hs
  split at hnew
  · rename_i ho
    rw [ho] at hs
    obtain ⟨nm, ti, h0, h1, h2, h3, h4⟩ := hs
    rw [hd] at h0; cases h0
    rw [h3] at hv; cases hv; rfl
  · rename_i ho
    rw [ho] at hs
    obtain ⟨nm, y, cs, h0, h1, h2, h3, h4, h5⟩ := hs
    rw [hd] at h0; cases h0
    rw [h4] at hv; cases hv; rfl
  · cases hnew
theorem StepV_new (hnew : isNewOp o.op = true) (hs : StepV P G T ρ N ops o e h v h') {d : Nat} (hd : o.dst = some d) {n off : Nat} (hv : v = .box n off) : n = d := by
  unfold StepV at hs
  split at hs
  · exact Sop_new hnew hs hd hv
  · obtain ⟨d', h2, h4, h5⟩ := hs
    rcases h5 with ⟨b, h3, h5⟩ | ⟨h3, rfl, rfl⟩
    · split at h5
      · exact Sop_new hnew h5 hd hv
      · obtain ⟨rfl, rfl⟩ := h5; cases hv
    · cases hv
theorem mem_of {pl : List (Nat × Nat)} {dsts : List Nat} (ha : Ag pl dsts e) {m n : Nat} : (memOf pl dsts o = .load (some m) → memE e o = .load (some n) → n = m) ∧ (memOf pl dsts o = .store (some m) → memE e o = .store (some n) → n = m) := by
  constructor <;> (intro h k; unfold memOf at h; unfold memE at k; split at h <;> first | cases h | skip)
  · rename_i t x ho
    injection h with h
    rw [ho] at k
    injection k with k
    split at k
    · rename_i nm off hx
      injection k with k
      subst k
      exact ha x m h nm off hx
    · cases k
  · rename_i t x y ho
    injection h with h
    rw [ho] at k
    injection k with k
    split at k
    · rename_i nm off hx
      injection k with k
      subst k
      exact ha x m h nm off hx
    · cases k
theorem memE_kind (e : Env) (o : Oper) (pl : List (Nat × Nat)) (dsts : List Nat) : (∀ m, memE e o = .load m → ∃ m', memOf pl dsts o = .load m') ∧ (∀ m, memE e o = .store m → ∃ m', memOf pl dsts o = .store m') := by
  constructor <;> (intro m h; unfold memE at h; unfold memOf; split at h <;> first | cases h; done | skip)
  · rename_i ho; rw [ho]; exact ⟨_, rfl⟩
  · rename_i ho; rw [ho]; exact ⟨_, rfl⟩
theorem updo_comm {x y : Option Nat} (hne : ∀ d, x = some d → y ≠ some d) (e : Env) (v u : SV) : updo (updo e x v) y u = updo (updo e y u) x v := by
  cases x with
  | none => rfl
  | some d =>
    cases y with
    | none => rfl
    | some d' => exact upd_comm e v u (fun e1 => hne d rfl (by rw [e1]))
theorem free_mem {pl : List (Nat × Nat)} {dsts : List Nat} {a b : Oper} (ha : Ag pl dsts e) (hf : memFree (memOf pl dsts a) (memOf pl dsts b) = true) :
    (∀ n m, memE e a = .load (some n) → memE e b = .store (some m) → n ≠ m) ∧ (∀ n m, memE e a = .store (some n) → memE e b = .load (some m) → n ≠ m) ∧ (∀ n m, memE e a = .store (some n) → memE e b = .store (some m) → n ≠ m) := by
  refine ⟨?_, ?_, ?_⟩ <;> intro n m h1 h2
  · obtain ⟨a', h3⟩ := (memE_kind e a pl dsts).1 _ h1
    obtain ⟨b', h4⟩ := (memE_kind e b pl dsts).2 _ h2
    rw [h3, h4] at hf
    cases a' <;> cases b' <;> simp [memFree, apartM] at hf
    have h5 := (mem_of ha).1 h3 h1
    have h6 := (mem_of ha).2 h4 h2
    subst h5; subst h6
    exact hf
  · obtain ⟨a', h3⟩ := (memE_kind e a pl dsts).2 _ h1
    obtain ⟨b', h4⟩ := (memE_kind e b pl dsts).1 _ h2
    rw [h3, h4] at hf
    cases a' <;> cases b' <;> simp [memFree, apartM] at hf
    have h5 := (mem_of ha).2 h3 h1
    have h6 := (mem_of ha).1 h4 h2
    subst h5; subst h6
    exact hf
  · obtain ⟨a', h3⟩ := (memE_kind e a pl dsts).2 _ h1
    obtain ⟨b', h4⟩ := (memE_kind e b pl dsts).2 _ h2
    rw [h3, h4] at hf
    cases a' <;> cases b' <;> simp [memFree, apartM] at hf
    have h5 := (mem_of ha).2 h3 h1
    have h6 := (mem_of ha).2 h4 h2
    subst h5; subst h6
    exact hf
theorem Step_swap {pl : List (Nat × Nat)} {dsts : List Nat} {a b : Oper} {e1 e2 : Env} {h1 h2 : Hp} (hw : Wf e h) (hag : Ag pl dsts e) (hf : freeOf ops pl dsts a b = true) (ha : Step P G T ρ N ops a e h e1 h1) (hb : Step P G T ρ N ops b e1 h1 e2 h2) :
    ∃ e1' h1', Step P G T ρ N ops b e h e1' h1' ∧ Step P G T ρ N ops a e1' h1' e2 h2 := by
  obtain ⟨da, v1, sa, rfl⟩ := ha
  obtain ⟨db, v2, sb, rfl⟩ := hb
  unfold freeOf at hf
  simp only [Bool.and_eq_true] at hf
  obtain ⟨⟨f1, f2⟩, f3⟩ := hf
  have g1 : ∀ t ∈ reads ops b, e t = updo e a.dst v1 t := by
    intro t ht
    cases hd : a.dst with
    | none => rfl
    | some d =>
      rw [hd] at f1
      simp only [Bool.and_eq_true, Bool.not_eq_true', bne_iff_ne] at f1
      have : t ≠ d := by intro e; subst e; have := f1.1; simp at this; exact this ht
      exact (upd_ne _ _ this).symm
  have g2 : ∀ t ∈ reads ops a, updo e b.dst v2 t = e t := by
    intro t ht
    cases hd : b.dst with
    | none => rfl
    | some d =>
      rw [hd] at f2
      simp only [Bool.not_eq_true'] at f2
      have : t ≠ d := by intro e; subst e; simp at f2; exact f2 ht
      exact upd_ne _ _ this
  have g3 : ∀ d, a.dst = some d → b.dst ≠ some d := by
    intro d hd
    rw [hd] at f1
    simp only [Bool.and_eq_true, bne_iff_ne] at f1
    exact f1.2
  have sb' := StepV_env g1 sb
  have hw1 : Wf e h1 := fun t nm off ht => (StepV_wf hw sa).1 nm (hw t nm off ht)
  have ka := StepV_kind hw sa
  have kb := StepV_kind hw1 sb'
  obtain ⟨c1, c2, c3⟩ := free_mem hag f3
  have hbn : ∀ n, (memE e b = .load (some n) ∨ memE e b = .store (some n)) → h n ≠ none := by
    intro n hn
    have : ∃ x off, evO e x = .box n off := by
      unfold memE at hn
      split at hn
      · rename_i t x _
        rcases hn with hn | hn
        · injection hn with hn
          split at hn
          · rename_i nm off hx; cases hn; exact ⟨x, off, hx⟩
          · cases hn
        · cases hn
      · rename_i t x y _
        rcases hn with hn | hn
        · cases hn
        · injection hn with hn
          split at hn
          · rename_i nm off hx; cases hn; exact ⟨x, off, hx⟩
          · cases hn
      · rcases hn with hn | hn <;> cases hn
    obtain ⟨x, off, hx⟩ := this
    exact hw.ev hx
  obtain ⟨h1', s1, s2⟩ := kind_swap ka kb sa sb' hbn c1 c2 c3
  exact ⟨updo e b.dst v2, h1', ⟨db, v2, s1, rfl⟩, ⟨da, v1, StepV_env g2 s2, updo_comm g3 e v1 v2⟩⟩
end
end Go.Sx
