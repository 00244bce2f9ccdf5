/- A part of a proof; the last text of this claim says of what. -/
import Derived.Test.YtnlabeglboomlaaGreatDoorV12
set_option linter.unusedVariables false
set_option linter.unusedSimpArgs false
set_option linter.unusedSectionVars false
namespace Go.Sx
open Go Go.RowKit Go.Shelf Go.Proofs
def StepV (P : Program) (G : World → Prop) (T : Tab) (ρ : Rws) (N : Nat) (ops : Array Oper) (o : Oper) (e : Env) (h : Hp) (v : SV) (h' : Hp) : Prop :=
  match o.guard with
  | none => Sop P G T ρ o e h v h'
  | some (j, want) => ∃ d, (ops[j]?).bind (·.dst) = some d ∧ d < N ∧ ((∃ b, e d = .p (.val (.bool b)) ∧ if b = want then Sop P G T ρ o e h v h' else (v = .p (.val undef) ∧ h' = h)) ∨ (e d = .p (.val undef) ∧ v = .p (.val undef) ∧ h' = h))
def Step (P : Program) (G : World → Prop) (T : Tab) (ρ : Rws) (N : Nat) (ops : Array Oper) (o : Oper) (e : Env) (h : Hp) (e' : Env) (h' : Hp) : Prop :=
  dstOk N o.dst ∧ ∃ v, StepV P G T ρ N ops o e h v h' ∧ e' = updo e o.dst v
def RunL (P : Program) (G : World → Prop) (T : Tab) (ρ : Rws) (N : Nat) (ops : Array Oper) : List Oper → Env → Hp → Env → Hp → Prop
  | [], e, h, e', h' => e' = e ∧ h' = h
  | o :: os, e, h, e', h' => ∃ e1 h1, Step P G T ρ N ops o e h e1 h1 ∧ RunL P G T ρ N ops os e1 h1 e' h'
section
variable {P : Program} {G : World → Prop} {T : Tab} {ζ : Fr} {N : Nat} {own own' : Nat → Nat} {e e' : Env} {h h' : Hp} {a : Act} {w w' : World} {o : Oper} {v : SV} {next : Act → World → Prop} {Q : Exit → Act → World → Prop}
theorem yielded_of (r : R ζ N own e h a w) {ops : Array Oper} {j d : Nat} {b : Bool} (hd : (ops[j]?).bind (·.dst) = some d) (he : e d = .p (.val (.bool b))) (hN : d < N) : yielded ops a.tmps j = some b := by
  have h1 := r.tmp d
  rw [he] at h1
  have h2 : a.tmps.getD d undef = .bool b := by simpa only [RepS, RepP] using h1
  have h3 : a.tmps[d]? = some (.bool b) := by
    have hs := r.size
    rw [← h2]
    simp [Array.getD, hs, hN]
  unfold yielded
  rw [hd]
  simp only [Option.bind_some, h3]
theorem yielded_un (r : R ζ N own e h a w) {ops : Array Oper} {j d : Nat} (hd : (ops[j]?).bind (·.dst) = some d) (he : e d = .p (.val undef)) (hN : d < N) : yielded ops a.tmps j = none := by
  have h1 := r.tmp d
  rw [he] at h1
  have h2 : a.tmps.getD d undef = undef := by simpa only [RepS, RepP] using h1
  have h3 : a.tmps[d]? = some undef := by
    have hs := r.size
    rw [← h2]
    simp [Array.getD, hs, hN]
  unfold yielded
  rw [hd]
  simp only [Option.bind_some, h3, undef]
theorem runL_sound (tk : TOk P T) (hG : ∀ w', ζ.w.grownBy w' ζ.ob → G w') (ops : Array Oper) : ∀ (l : List Nat) (e : Env) (h : Hp) (own : Nat → Nat) (a : Act) (w : World), (∀ i ∈ l, i < ops.size) → RunL P G T ζ.ρ N ops (l.map fun i => ops[i]!) e h e' h' → R ζ N own e h a w →
    (∀ own' a' w', R ζ N own' e' h' a' w' → Q .normal a' w') → wpOps P ops Q l a w
  | [], e, h, own, a, w, _, hr, r, hk => by
    simp only [List.map_nil, RunL] at hr
    obtain ⟨rfl, rfl⟩ := hr
    exact hk own a w r
  | i :: l, e, h, own, a, w, hi, hr, r, hk => by
    simp only [List.map_cons, RunL] at hr
    obtain ⟨e1, h1, hs, hr⟩ := hr
    have hlt := hi i (List.mem_cons_self ..)
    have hl : ∀ j ∈ l, j < ops.size := fun j hj => hi j (List.mem_cons_of_mem _ hj)
    have ho : ops[i]? = some ops[i]! := by rw [getElem!_pos ops i hlt]; exact Array.getElem?_eq_getElem hlt
    simp only [wpOps, ho]
    have hcont : ∀ own1 a1 w1, R ζ N own1 e1 h1 a1 w1 → wpOps P ops Q l a1 w1 := fun own1 a1 w1 r1 => runL_sound tk hG ops l e1 h1 own1 a1 w1 hl hr r1 hk
    obtain ⟨hd, v, hg, rfl⟩ := hs
    unfold StepV at hg
    split at hg
    · rename_i hgn
      have hw : Region.wanted ops[i]! (yielded ops a.tmps) = true := by simp [Region.wanted, hgn]
      rw [if_pos hw]
      refine .inl (op_sound tk hG r hd hg ?_)
      intro own1 x w1 r1 hv
      exact hcont _ _ _ (r1.put _ v x hd hv)
    · rename_i j want hgs
      obtain ⟨d, hd1, hN1, hg⟩ := hg
      rcases hg with ⟨b, he1, hg⟩ | ⟨he1, rfl, rfl⟩
      case inr =>
        have hy := yielded_un r hd1 he1 hN1
        have hw : ¬ Region.wanted ops[i]! (yielded ops a.tmps) = true := by simp [Region.wanted, hgs, hy]
        rw [if_neg hw]
        exact hcont _ _ _ (r.put _ (.p (.val undef)) undef hd (by show RepP _ _ _ _; simp only [RepP]))
      have hy := yielded_of r hd1 he1 hN1
      split at hg
      · rename_i hb
        have hw : Region.wanted ops[i]! (yielded ops a.tmps) = true := by simp [Region.wanted, hgs, hy, hb]
        rw [if_pos hw]
        refine .inl (op_sound tk hG r hd hg ?_)
        intro own1 x w1 r1 hv
        exact hcont _ _ _ (r1.put _ v x hd hv)
      · rename_i hb
        obtain ⟨rfl, rfl⟩ := hg
        have hw : ¬ Region.wanted ops[i]! (yielded ops a.tmps) = true := by simp [Region.wanted, hgs, hy, hb]
        rw [if_neg hw]
        exact hcont _ _ _ (r.put _ (.p (.val undef)) undef hd (by show RepP _ _ _ _; simp only [RepP]))
theorem R.drew (r : R ζ N own e h a w) : R ζ N own e h a { w with drawn := w.drawn + 1 } :=
  r.grow ⟨rfl, rfl, rfl, Nat.le_refl _, fun _ _ _ => rfl⟩
end
def reads (ops : Array Oper) (o : Oper) : List Nat :=
  (o.op.operands.toList.filterMap fun | .tmp t => some t | _ => none) ++ (match o.guard with | none => [] | some (j, _) => ((ops[j]?).bind (·.dst)).toList)
inductive Mem where
  | no | load (a : Option Nat) | store (a : Option Nat)
def isNewOp : Op → Bool
  | .alloc _ => true
  | .box _ _ => true
  | _ => false
def placeOf (pl : List (Nat × Nat)) (dsts : List Nat) : Operand → Option Nat
  | .tmp t => if dsts.contains t then (if pl.contains (t, t) then some t else none) else (pl.find? (fun x => x.1 == t)).map (·.2)
  | _ => none
def memOf (pl : List (Nat × Nat)) (dsts : List Nat) (o : Oper) : Mem :=
  match o.op with
  | .load _ x => .load (placeOf pl dsts x)
  | .store _ x _ => .store (placeOf pl dsts x)
  | _ => .no
def apartM : Option Nat → Option Nat → Bool
  | some a, some b => a != b
  | _, _ => false
def memFree : Mem → Mem → Bool
  | .no, _ | _, .no => true
  | .load _, .load _ => true
  | .load a, .store b | .store a, .load b | .store a, .store b => apartM a b
def freeOf (ops : Array Oper) (pl : List (Nat × Nat)) (dsts : List Nat) (a b : Oper) : Bool :=
  (match a.dst with | some d => !((reads ops b).contains d) && b.dst != some d | none => true) &&
  (match b.dst with | some d => !((reads ops a).contains d) | none => true) &&
  memFree (memOf pl dsts a) (memOf pl dsts b)
end Go.Sx
