/- A part of a proof; the last text of this claim says of what. -/
import Derived.Test.YtnlabeglboomlaaGreatDoorV25
set_option linter.unusedVariables false
set_option linter.unusedSimpArgs false
set_option linter.unusedSectionVars false
namespace Go.Sx
open Go Go.RowKit Go.Shelf Go.Proofs
def NextK {S : Type} (sl : S → Ls) (bl : S → Lh) (rl : S → Lr) (inv : S → Prop) (μ : S → Nat) (s : S) (e : Env) (h : Hp) (ρ : Rws) (t : Tag (inv, μ, e, h, ρ)) : Prop := ∃ s', μ s' < μ s ∧ inv s' ∧ Is (sl s') (bl s') (rl s') e h ρ
theorem loopK_of {P : Program} {G : World → Prop} {T : Tab} {N : Nat} {Y : Hint} {b : Code} {e : Env} {h : Hp} {ρ : Rws} {Q : X → Env → Hp → Rws → Prop} {t : Tag (b, e, h, ρ, Q)} {S : Type} (sl : S → Ls) (bl : S → Lh) (rl : S → Lr) (inv : S → Prop) (μ : S → Nat) (s0 : S)
    (h0 : inv s0) (his : Is (sl s0) (bl s0) (rl s0) e h ρ) (round : ∀ s, inv s → vc P G T N Y b (envL (sl s)) (hpL (bl s)) (rwL (rl s)) (thenX Q fun e h ρ => NextK sl bl rl inv μ s e h ρ ⟨⟩)) : loopK P G T N Y b e h ρ Q t := by
  show vc P G T N Y (.loop b) e h ρ Q
  rw [vc]
  refine ⟨fun n l lh lr => ∃ s, μ s = n ∧ inv s ∧ l = sl s ∧ lh = bl s ∧ lr = rl s, ⟨_, _, _, _, ⟨s0, rfl, h0, rfl, rfl, rfl⟩, his⟩, ?_⟩
  rintro n l lh lr ⟨s, rfl, hi, rfl, rfl, rfl⟩
  have := round s hi
  have key : (fun e h ρ => NextK sl bl rl inv μ s e h ρ ⟨⟩) = (fun e h ρ => ∃ m l' lh' lr', m < μ s ∧ (∃ s, μ s = m ∧ inv s ∧ l' = sl s ∧ lh' = bl s ∧ lr' = rl s) ∧ Is l' lh' lr' e h ρ) := by
    funext e h ρ
    apply propext
    constructor
    · rintro ⟨s', h1, h2, h3⟩
      exact ⟨_, _, _, _, h1, ⟨s', rfl, h2, rfl, rfl, rfl⟩, h3⟩
    · rintro ⟨m, l', lh', lr', h1, ⟨s', rfl, h2, rfl, rfl, rfl⟩, h3⟩
      exact ⟨s', h1, h2, h3⟩
  rw [key] at this
  exact this
def CutK {S : Type} (sl : S → Ls) (bl : S → Lh) (rl : S → Lr) (inv : S → Prop) (e : Env) (h : Hp) (ρ : Rws) (t : Tag (inv, e, h, ρ)) : Prop := ∃ s, inv s ∧ Is (sl s) (bl s) (rl s) e h ρ
theorem CutK.mk {S : Type} {sl : S → Ls} {bl : S → Lh} {rl : S → Lr} {inv : S → Prop} {e : Env} {h : Hp} {ρ : Rws} {t : Tag (inv, e, h, ρ)} (s : S) (h1 : inv s) (h2 : Is (sl s) (bl s) (rl s) e h ρ) : CutK sl bl rl inv e h ρ t := ⟨s, h1, h2⟩
theorem cut_of {P : Program} {G : World → Prop} {T : Tab} {N : Nat} {Y : Hint} {id : Nat} {b : Code} {e : Env} {h : Hp} {ρ : Rws} {Q : X → Env → Hp → Rws → Prop} {t : Tag (b, e, h, ρ, Q)} {S : Type} (sl : S → Ls) (bl : S → Lh) (rl : S → Lr) (inv : S → Prop)
    (h1 : vc P G T N Y b e h ρ (cutX id (fun e h ρ => CutK sl bl rl inv e h ρ ⟨⟩) Q)) (h2 : ∀ s, inv s → Q .normal (envL (sl s)) (hpL (bl s)) (rwL (rl s))) : cutBK P G T N Y id b e h ρ Q t := by
  refine ⟨fun l lh lr => ∃ s, inv s ∧ l = sl s ∧ lh = bl s ∧ lr = rl s, ?_, ?_⟩
  · have key : (fun e h ρ => CutK sl bl rl inv e h ρ ⟨⟩) = (fun e h ρ => ∃ l lh lr, (∃ s, inv s ∧ l = sl s ∧ lh = bl s ∧ lr = rl s) ∧ Is l lh lr e h ρ) := by
      funext e h ρ
      apply propext
      constructor
      · rintro ⟨s, h1, h2⟩
        exact ⟨_, _, _, ⟨s, h1, rfl, rfl, rfl⟩, h2⟩
      · rintro ⟨l, lh, lr, ⟨s, h1, rfl, rfl, rfl⟩, h2⟩
        exact ⟨s, h1, h2⟩
    rw [key] at h1
    exact h1
  · rintro l lh lr ⟨s, hs, rfl, rfl, rfl⟩
    exact h2 s hs
theorem NextK.mk {S : Type} {sl : S → Ls} {bl : S → Lh} {rl : S → Lr} {inv : S → Prop} {μ : S → Nat} {s : S} {e : Env} {h : Hp} {ρ : Rws} {t : Tag (inv, μ, e, h, ρ)} (s' : S) (h1 : μ s' < μ s) (h2 : inv s') (h3 : Is (sl s') (bl s') (rl s') e h ρ) : NextK sl bl rl inv μ s e h ρ t := ⟨s', h1, h2, h3⟩
theorem CallT.mk {P : Program} {G : World → Prop} {g : FuncId} {args : List PV} {K : PV → Prop} {t : Tag K} {y : PV} (h1 : Meets P G g args y) (h2 : K y) : CallT P G g args K t := ⟨y, h1, h2⟩
theorem CallT.to {P : Program} {G : World → Prop} {g : FuncId} {args args' : List PV} {K : PV → Prop} {t : Tag K} {y : PV} (h1 : Meets P G g args' y) (h0 : args = args') (h2 : K y) : CallT P G g args K t := ⟨y, h0 ▸ h1, h2⟩
theorem CallN.mk {P : Program} {G : World → Prop} {g : FuncId} {q q' : RowE} {args : List PV} {K : RowE → PV → Prop} {t : Tag K} {y : PV} (h1 : MeetsM P G g q q' args y) (h2 : K q' y) : CallN P G g q args K t := ⟨q', y, h1, h2⟩
theorem CallTT.mk {P : Program} {G : World → Prop} {g : FuncId} {q q' : RowE} {args : List PV} {K : RowE → Prop} {t : Tag K} (h1 : MeetsT P G g q q' args) (h2 : K q') (hp : q.par = false := by rfl) (hp' : q'.par = false := by rfl) : CallTT P G g q args K t := ⟨hp, q', h1, hp', h2⟩
theorem CallFT.mk {P : Program} {G : World → Prop} {g : FuncId} {args : List PV} {q : RowE} {K : RowE → Prop} {t : Tag K} (h1 : MeetsR P G g args q) (h2 : K q) (hp : q.par = false := by rfl) : CallFT P G g args K t := ⟨q, h1, hp, h2⟩
theorem isE_nil (lh : Lh) (lr : Lr) (e : Env) (h : Hp) (ρ : Rws) : Is [] lh lr e h ρ = ((∀ x ∈ lh, h x.1 = some x.2) ∧ (∀ x ∈ lr, ρ x.1 = some x.2)) := by simp [Is, boxesOk]
theorem is_cons (t : Nat) (s : SV) (l : Ls) (lh : Lh) (lr : Lr) (e : Env) (h : Hp) (ρ : Rws) : Is ((t, s) :: l) lh lr e h ρ = (e t = s ∧ (boxesOk [(t, s)] lh lr = true) ∧ Is l lh lr e h ρ) := by
  simp [Is, boxesOk]
  constructor
  · rintro ⟨⟨h1, h2⟩, h3, h4, h5, h6⟩; exact ⟨h1, h5, h2, h3, h4, h6⟩
  · rintro ⟨h1, h5, h2, h3, h4, h6⟩; exact ⟨⟨h1, h2⟩, h3, h4, h5, h6⟩
theorem bo_p (t : Nat) (x : PV) (lh : Lh) (lr : Lr) : boxesOk [(t, .p x)] lh lr = true := by simp [boxesOk]
theorem bo_box (t nm o : Nat) (lh : Lh) (lr : Lr) : boxesOk [(t, .box nm o)] lh lr = lh.any (fun y => y.1 == nm) := by simp [boxesOk]
theorem bo_orow (t nm : Nat) (lh : Lh) (lr : Lr) : boxesOk [(t, .orow nm)] lh lr = lr.any (fun y => y.1 == nm) := by simp [boxesOk]
theorem bo_rowp (t nm o : Nat) (lh : Lh) (lr : Lr) : boxesOk [(t, .rowp nm o)] lh lr = lr.any (fun y => y.1 == nm) := by simp [boxesOk]
theorem all_cons' (α : Type) (p : α → Prop) (a : α) (l : List α) : (∀ x ∈ a :: l, p x) = (p a ∧ ∀ x ∈ l, p x) := by simp
theorem all_nil' (α : Type) (p : α → Prop) : (∀ x ∈ ([] : List α), p x) = True := by simp
theorem any_cons' (α : Type) (p : α → Bool) (a : α) (l : List α) : (a :: l).any p = (p a || l.any p) := by simp
theorem i64_id {x : Int} (h0 : -9223372036854775808 ≤ x) (h1 : x < 9223372036854775808) : IntKind.i64.wrap x = x := by
  rw [IntKind.wrap_i64]; omega
theorem u64_id {x : Int} (h0 : 0 ≤ x) (h1 : x < 18446744073709551616) : IntKind.u64.wrap x = x := by
  have : IntKind.u64.wrap x = x % 18446744073709551616 := by simp [IntKind.wrap, IntKind.bits, IntKind.signed]
  rw [this]; omega
theorem u32_id {x : Int} (h0 : 0 ≤ x) (h1 : x < 4294967296) : IntKind.u32.wrap x = x := by
  have : IntKind.u32.wrap x = x % 4294967296 := by simp [IntKind.wrap, IntKind.bits, IntKind.signed]
  rw [this]; omega
theorem u8_id {x : Int} (h0 : 0 ≤ x) (h1 : x < 256) : IntKind.u8.wrap x = x := by
  have : IntKind.u8.wrap x = x % 256 := by simp [IntKind.wrap, IntKind.bits, IntKind.signed]
  rw [this]; omega
theorem vcIf_true (A B : Prop) : vcIf true A B = A := rfl
theorem vcIf_false (A B : Prop) : vcIf false A B = B := rfl
theorem vcIf_dec {p : Prop} [Decidable p] {A B : Prop} (h1 : p → A) (h2 : ¬ p → B) : vcIf (decide p) A B := by
  by_cases h : p
  · simp only [h, decide_true, vcIf]; exact h1 h
  · simp only [h, decide_false, vcIf]; exact h2 h
theorem vcIf_b {b : Bool} {A B : Prop} (h1 : b = true → A) (h2 : b = false → B) : vcIf b A B := by
  cases b
  · exact h2 rfl
  · exact h1 rfl
theorem ls :
  (∀ (α : Type) (a : α) (l : List α), (a :: l)[0]? = some a) ∧ (∀ (α : Type) (a : α) (l : List α) (i : Nat), (a :: l)[i + 1]? = l[i]?) ∧
  (∀ (α : Type) (a : α) (l : List α) (i : Nat), (a :: l).take (i + 1) = a :: l.take i) ∧ (∀ (α : Type) (l : List α), l.take 0 = []) ∧
  (∀ (α : Type) (a : α) (l : List α) (i : Nat), (a :: l).drop (i + 1) = l.drop i) ∧ (∀ (α : Type) (l : List α), l.drop 0 = l) ∧
  (∀ (α : Type) (a : α) (l m : List α), a :: l ++ m = a :: (l ++ m)) ∧ (∀ (α : Type) (l : List α), [] ++ l = l) ∧ (∀ (α : Type) (l : List α), l ++ [] = l) ∧
  (∀ (α : Type) (a : α) (l : List α), (a :: l).length = l.length + 1) ∧ (∀ (α : Type), ([] : List α).length = 0) ∧
  (∀ (α : Type) (f : α → Bool) (a : α) (l : List α), (a :: l).all f = (f a && l.all f)) ∧ (∀ (α : Type) (f : α → Bool), ([] : List α).all f = true) ∧
  (∀ (α : Type) (a : α), (some a).isSome = true) ∧ (∀ (α β : Type) (f : α → β) (a : α), (some a).map f = some (f a)) :=
  ⟨fun _ _ _ => rfl, fun _ _ _ _ => rfl, fun _ _ _ _ => rfl, fun _ _ => List.take_zero, fun _ _ _ _ => rfl, fun _ _ => rfl, fun _ _ _ _ => rfl, fun _ _ => rfl, fun _ => List.append_nil, fun _ _ _ => rfl, fun _ => rfl, fun _ _ _ _ => List.all_cons, fun _ _ => rfl, fun _ _ => rfl, fun _ _ _ _ => rfl⟩
theorem bs : (∀ b : Bool, (b && b) = b) ∧ (∀ b : Bool, (b && true) = b) ∧ (∀ b : Bool, (true && b) = b) ∧ (∀ b : Bool, (false && b) = false) ∧ (!true) = false ∧ (!false) = true := by
  refine ⟨?_, ?_, ?_, ?_, rfl, rfl⟩ <;> intro b <;> cases b <;> rfl
end Go.Sx
