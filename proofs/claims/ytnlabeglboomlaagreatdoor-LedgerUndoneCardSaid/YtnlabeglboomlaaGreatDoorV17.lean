/- A part of a proof; the last text of this claim says of what. -/
import Derived.Test.YtnlabeglboomlaaGreatDoorV16
set_option linter.unusedVariables false
set_option linter.unusedSimpArgs false
set_option linter.unusedSectionVars false
namespace Go.Sx
open Go Go.RowKit Go.Shelf Go.Proofs
def anyEdges (o : Oper) : List Nat := o.after.toList.filterMap fun e => if Region.binds .any e then some e.on else none
def maskOf (acc : List Nat) (o : Oper) : Nat := (anyEdges o).foldl (fun s k => s ||| 2 ^ k ||| acc.getD k 0) 0
def masksGo (acc : List Nat) : List Oper → List Nat
  | [] => acc
  | o :: os => masksGo (acc ++ [maskOf acc o]) os
def dstsOf (ops : Array Oper) : List Nat := ops.toList.filterMap (·.dst)
def orderB (pl : List (Nat × Nat)) (ops : Array Oper) : Bool :=
  ((List.range ops.size).all fun i => (anyEdges ops[i]!).all (· < i)) &&
  ((List.range ops.size).all fun i => (List.range i).all fun j => freeOf ops pl (dstsOf ops) ops[j]! ops[i]! || ((masksGo [] ops.toList).getD i 0).testBit j) &&
  (pl.all fun x => x.1 != x.2 || (List.range ops.size).all fun j => ops[j]!.dst != some x.1 || isNewOp ops[j]!.op || !(dstsOf ops).contains x.1)
theorem fold_bit (acc : List Nat) (j : Nat) : ∀ (l : List Nat) (s : Nat), (l.foldl (fun s k => s ||| 2 ^ k ||| acc.getD k 0) s).testBit j = true → s.testBit j = true ∨ ∃ k ∈ l, j = k ∨ (acc.getD k 0).testBit j = true
  | [], s, h => .inl h
  | k :: l, s, h => by
    rcases fold_bit acc j l _ h with h1 | ⟨k', h1, h2⟩
    · rw [Nat.testBit_or, Nat.testBit_or, Bool.or_eq_true, Bool.or_eq_true] at h1
      rcases h1 with (h1 | h1) | h1
      · exact .inl h1
      · refine .inr ⟨k, List.mem_cons_self .., .inl ?_⟩
        rw [Nat.testBit_two_pow] at h1
        exact (by simpa using h1 : k = j).symm
      · exact .inr ⟨k, List.mem_cons_self .., .inr h1⟩
    · exact .inr ⟨k', List.mem_cons_of_mem _ h1, h2⟩
theorem masks_spec (listed : Nat → Prop) (ops : List Oper) (hcl : ∀ (i : Nat) (o : Oper), ops[i]? = some o → listed i → ∀ k ∈ anyEdges o, listed k) :
    ∀ (os : List Oper) (acc : List Nat), ops = ops.take acc.length ++ os → acc.length + os.length = ops.length → (∀ k, k < acc.length → (listed k ∨ ∀ o, ops[k]? = some o → ∀ q ∈ anyEdges o, listed q) → ∀ j, (acc.getD k 0).testBit j = true → listed j) →
      ∀ k, k < ops.length → (listed k ∨ ∀ o, ops[k]? = some o → ∀ q ∈ anyEdges o, listed q) → ∀ j, ((masksGo acc os).getD k 0).testBit j = true → listed j
  | [], acc, _, hl, hacc => by
    simp only [List.length_nil, Nat.add_zero] at hl
    intro k hk
    exact hacc k (by omega)
  | o :: os, acc, he, hl, hacc => by
    simp only [List.length_cons] at hl
    rw [masksGo]
    have hget : ops[acc.length]? = some o := by
      rw [he, List.getElem?_append_right (by simp; omega)]
      simp [Nat.min_eq_left (show acc.length ≤ ops.length by omega)]
    refine masks_spec listed ops hcl os (acc ++ [maskOf acc o]) ?_ ?_ ?_
    · rw [List.length_append, List.length_singleton, List.take_add_one, hget]
      rw [Option.toList_some, List.append_assoc, List.singleton_append]
      exact he
    · simp; omega
    · intro k hk hor j hj
      simp only [List.length_append, List.length_singleton] at hk
      by_cases hk2 : k < acc.length
      · rw [List.getD_eq_getElem?_getD, List.getElem?_append_left hk2, ← List.getD_eq_getElem?_getD] at hj
        exact hacc k hk2 hor j hj
      · obtain rfl : k = acc.length := by omega
        rw [List.getD_eq_getElem?_getD, List.getElem?_append_right (Nat.le_refl _)] at hj
        simp only [Nat.sub_self, List.getElem?_cons_zero, Option.getD_some] at hj
        have hed : ∀ q ∈ anyEdges o, listed q := by
          rcases hor with h1 | h1
          · exact hcl _ o hget h1
          · exact h1 o hget
        rcases fold_bit acc j _ _ hj with h1 | ⟨q, h1, h2⟩
        · simp at h1
        · rcases h2 with rfl | h2
          · exact hed _ h1
          · by_cases hq : q < acc.length
            · exact hacc q hq (.inl (hed q h1)) j h2
            · rw [List.getD_eq_getElem?_getD, List.getElem?_eq_none (by omega)] at h2
              simp at h2
section
variable {P : Program} {G : World → Prop} {T : Tab} {ζ : Fr} {N : Nat} {own own' : Nat → Nat} {e e' : Env} {h h' : Hp} {a : Act} {w w' : World} {o : Oper} {v : SV} {Q : Exit → Act → World → Prop} {ops : Array Oper}
theorem R.wf (r : R ζ N own e h a w) : Wf e h := by
  intro t nm off ht
  have := r.tmp t
  rw [ht] at this
  exact this.1
theorem step_wp (tk : TOk P T) (hG : ∀ w', ζ.w.grownBy w' ζ.ob → G w') {i : Nat} (hi : i < ops.size) (r : R ζ N own e h a w) (hs : Step P G T ζ.ρ N ops ops[i]! e h e' h') {K : Act → World → Prop} (hcont : ∀ own1 a1 w1, R ζ N own1 e' h' a1 w1 → K a1 w1) : wpOp P ops Q i K a w := by
  have ho : ops[i]? = some ops[i]! := by rw [getElem!_pos ops i hi]; exact Array.getElem?_eq_getElem hi
  unfold wpOp
  simp only [ho]
  obtain ⟨hd, v, hg, rfl⟩ := hs
  unfold StepV at hg
  split at hg
  · rename_i hgn
    have hw : Region.wanted ops[i]! (yielded ops a.tmps) = true := by simp [Region.wanted, hgn]
    rw [if_pos hw]
    refine .inl (op_sound tk hG r hd hg ?_)
    intro own1 x w1 r1 hv
    exact hcont _ _ _ (r1.put _ v x hd hv)
  · rename_i j want hgs
    obtain ⟨d, hd1, hN1, hg⟩ := hg
    rcases hg with ⟨b, he1, hg⟩ | ⟨he1, rfl, rfl⟩
    case inr =>
      have hy := yielded_un r hd1 he1 hN1
      have hw : ¬ Region.wanted ops[i]! (yielded ops a.tmps) = true := by simp [Region.wanted, hgs, hy]
      rw [if_neg hw]
      exact hcont _ _ _ (r.put _ (.p (.val undef)) undef hd (by show RepP _ _ _ _; simp only [RepP]))
    have hy := yielded_of r hd1 he1 hN1
    split at hg
    · rename_i hb
      have hw : Region.wanted ops[i]! (yielded ops a.tmps) = true := by simp [Region.wanted, hgs, hy, hb]
      rw [if_pos hw]
      refine .inl (op_sound tk hG r hd hg ?_)
      intro own1 x w1 r1 hv
      exact hcont _ _ _ (r1.put _ v x hd hv)
    · rename_i hb
      obtain ⟨rfl, rfl⟩ := hg
      have hw : ¬ Region.wanted ops[i]! (yielded ops a.tmps) = true := by simp [Region.wanted, hgs, hy, hb]
      rw [if_neg hw]
      exact hcont _ _ _ (r.put _ (.p (.val undef)) undef hd (by show RepP _ _ _ _; simp only [RepP]))
theorem runL_front {pl : List (Nat × Nat)} {i : Nat} (B : List Nat) (hds : ∀ j, j < ops.size → ∀ d, ops[j]!.dst = some d → d ∈ dstsOf ops) (hnw : ∀ j, j < ops.size → ∀ d, ops[j]!.dst = some d → pl.contains (d, d) = true → isNewOp ops[j]!.op = true) : ∀ (A : List Nat) (e : Env) (h : Hp), (∀ j ∈ A, j < ops.size) → (∀ j ∈ A, freeOf ops pl (dstsOf ops) ops[j]! ops[i]! = true) → Wf e h → Ag pl (dstsOf ops) e →
    RunL P G T ζ.ρ N ops ((A ++ i :: B).map fun i => ops[i]!) e h e' h' → ∃ e1 h1, Step P G T ζ.ρ N ops ops[i]! e h e1 h1 ∧ RunL P G T ζ.ρ N ops ((A ++ B).map fun i => ops[i]!) e1 h1 e' h'
  | [], e, h, _, _, hw, ha, hr => hr
  | j :: A, e, h, hA, hf, hw, ha, hr => by
    simp only [List.cons_append, List.map_cons, RunL] at hr
    obtain ⟨e1, h1, hs, hr⟩ := hr
    have hw1 := Step_wf hw hs
    have ha1 : Ag pl (dstsOf ops) e1 := by
      obtain ⟨_, v, hsv, rfl⟩ := hs
      exact ha.step (hds j (hA j (List.mem_cons_self ..))) (fun d hd hp n off hv => StepV_new (hnw j (hA j (List.mem_cons_self ..)) d hd hp) hsv hd hv)
    obtain ⟨e2, h2, hs2, hr2⟩ := runL_front B hds hnw A e1 h1 (fun k hk => hA k (List.mem_cons_of_mem _ hk)) (fun k hk => hf k (List.mem_cons_of_mem _ hk)) hw1 ha1 hr
    obtain ⟨e1', h1', s1, s2⟩ := Step_swap hw ha (hf j (List.mem_cons_self ..)) hs hs2
    refine ⟨e1', h1', s1, ?_⟩
    simp only [List.cons_append, List.map_cons, RunL]
    exact ⟨e2, h2, s2, hr2⟩
theorem any_sound (tk : TOk P T) (hG : ∀ w', ζ.w.grownBy w' ζ.ob → G w') {pl : List (Nat × Nat)} (hB : orderB pl ops = true) (hk : ∀ own' a' w', R ζ N own' e' h' a' w' → Q .normal a' w') :
    ∀ (fuel : Nat) (listed : Array Bool) (rem : List Nat) (own : Nat → Nat) (e : Env) (h : Hp) (a : Act) (w : World), listed.size = ops.size → rem.Pairwise (· < ·) → (∀ j, j ∈ rem ↔ j < ops.size ∧ listed.getD j true = false) →
      (∀ (i : Nat) (o : Oper), ops.toList[i]? = some o → listed.getD i false = true → ∀ k ∈ anyEdges o, listed.getD k false = true) → fuel = rem.length → Ag pl (dstsOf ops) e →
      RunL P G T ζ.ρ N ops (rem.map fun i => ops[i]!) e h e' h' → R ζ N own e h a w → wpAny P .any ops Q fuel listed a w := by
  unfold orderB at hB
  simp only [Bool.and_eq_true, List.all_eq_true, List.mem_range, Bool.or_eq_true, decide_eq_true_eq] at hB
  obtain ⟨⟨hB1, hB2⟩, hB3⟩ := hB
  have hds : ∀ j, j < ops.size → ∀ d, ops[j]!.dst = some d → d ∈ dstsOf ops := by
    intro j hj d hd
    unfold dstsOf
    rw [List.mem_filterMap]
    exact ⟨ops[j]!, by rw [getElem!_pos ops j hj]; simp, hd⟩
  have hnw : ∀ j, j < ops.size → ∀ d, ops[j]!.dst = some d → pl.contains (d, d) = true → isNewOp ops[j]!.op = true := by
    intro j hj d hd hp
    have h1 := hB3 (d, d) (by simpa using hp)
    simp only [bne_self_eq_false, Bool.false_eq_true, false_or] at h1
    have h2 := h1 j hj
    rcases h2 with (h2 | h2) | h2
    · rw [hd] at h2; simp at h2
    · exact h2
    · have := hds j hj d hd
      rw [List.contains_iff_mem.2 this] at h2; cases h2
  have hready : ∀ (listed : Array Bool) (i : Nat), i ∈ Region.ready .any ops listed ↔ i < ops.size ∧ listed.getD i true = false ∧ ∀ k ∈ anyEdges ops[i]!, listed.getD k false = true := by
    intro listed i
    unfold Region.ready
    rw [List.mem_filter, List.mem_range]
    constructor
    · rintro ⟨h1, h2⟩
      rw [Bool.and_eq_true] at h2
      refine ⟨h1, by simpa using h2.1, ?_⟩
      have h3 := h2.2
      rw [Array.getElem?_eq_getElem h1] at h3
      simp only [Option.map_some, Option.getD_some] at h3
      intro k hk
      unfold anyEdges at hk
      rw [List.mem_filterMap] at hk
      obtain ⟨ed, h4, h5⟩ := hk
      split at h5
      · rename_i hb
        cases h5
        rw [getElem!_pos ops i h1] at h4
        rw [Array.all_eq_true_iff_forall_mem] at h3
        have := h3 ed (by simpa using h4)
        rw [hb] at this
        simpa using this
      · cases h5
    · rintro ⟨h1, h2, h3⟩
      refine ⟨h1, ?_⟩
      rw [Bool.and_eq_true]
      refine ⟨by simpa using h2, ?_⟩
      rw [Array.getElem?_eq_getElem h1]
      simp only [Option.map_some, Option.getD_some]
      rw [Array.all_eq_true_iff_forall_mem]
      intro ed hed
      cases hb : Region.binds .any ed with
      | false => simp
      | true =>
        have := h3 ed.on (by unfold anyEdges; rw [List.mem_filterMap, getElem!_pos ops i h1]; exact ⟨ed, by simpa using hed, by rw [if_pos hb]⟩)
        simpa using this
  have hgd : ∀ (listed : Array Bool) (j : Nat), listed.size = ops.size → j < ops.size → listed.getD j true = false → listed.getD j false = true → False := by
    intro listed j hs hj h1 h2
    have : j < listed.size := by omega
    simp only [Array.getD, this, dif_pos] at h1 h2
    rw [h1] at h2; cases h2
  intro fuel
  induction fuel with
  | zero =>
    intro listed rem own e h a w hs hp hm hc hf ha hr r
    have h0 : rem = [] := List.length_eq_zero_iff.1 hf.symm
    subst h0
    simp only [List.map_nil, RunL] at hr
    obtain ⟨rfl, rfl⟩ := hr
    refine ⟨?_, hk _ _ _ r⟩
    cases hr0 : Region.ready .any ops listed with
    | nil => rfl
    | cons i l =>
      have := (hready listed i).1 (by rw [hr0]; exact List.mem_cons_self ..)
      exact absurd ((hm i).2 ⟨this.1, this.2.1⟩) (by simp)
  | succ fuel ih =>
    intro listed rem own e h a w hs hp hm hc hf ha hr r
    refine ⟨?_, ?_⟩
    · intro h0
      cases rem with
      | nil => simp at hf
      | cons i l =>
        exfalso
        have hi := (hm i).1 (List.mem_cons_self ..)
        have : i ∈ Region.ready .any ops listed := by
          refine (hready listed i).2 ⟨hi.1, hi.2, ?_⟩
          intro k hk1
          have hlt := hB1 i hi.1 k hk1
          cases hg : listed.getD k false with
          | true => rfl
          | false =>
            exfalso
            have hks : k < listed.size := by omega
            have h2 : listed.getD k true = false := by simp only [Array.getD, hks, dif_pos] at hg ⊢; exact hg
            have h3 := (hm k).2 ⟨by omega, h2⟩
            rcases List.mem_cons.1 h3 with h4 | h4
            · omega
            · have := (List.pairwise_cons.1 hp).1 k h4; omega
        rw [h0] at this
        cases this
    · intro i hi
      obtain ⟨h1, h2, h3⟩ := (hready listed i).1 hi
      obtain ⟨A, B, rfl⟩ := List.append_of_mem ((hm i).2 ⟨h1, h2⟩)
      have hpp := List.pairwise_append.1 hp
      have hA : ∀ j ∈ A, j < ops.size := fun j hj => ((hm j).1 (List.mem_append_left _ hj)).1
      have hfree : ∀ j ∈ A, freeOf ops pl (dstsOf ops) ops[j]! ops[i]! = true := by
        intro j hj
        have hji : j < i := hpp.2.2 j hj i (List.mem_cons_self ..)
        rcases hB2 i h1 j hji with h4 | h4
        · exact h4
        · exfalso
          have hl := masks_spec (fun k => listed.getD k false = true) ops.toList hc ops.toList [] (by simp) (by simp) (by simp) i (by simpa using h1) (.inr (by
            intro o ho q hq
            have : o = ops[i]! := by rw [getElem!_pos ops i h1]; simpa [h1] using ho.symm
            subst this
            exact h3 q hq)) j h4
          exact hgd listed j hs (hA j hj) ((hm j).1 (List.mem_append_left _ hj)).2 hl
      obtain ⟨e1, h1', s1, hr1⟩ := runL_front B hds hnw A e h hA hfree r.wf ha hr
      refine step_wp tk hG h1 r s1 ?_
      intro own1 a1 w1 r1
      have hsz : i < listed.size := by omega
      refine ih (listed.setIfInBounds i true) (A ++ B) own1 e1 h1' a1 w1 (by simpa using hs) ?_ ?_ ?_ ?_ ?_ hr1 r1
      · rw [List.pairwise_append]
        exact ⟨hpp.1, (List.pairwise_cons.1 hpp.2.1).2, fun x hx y hy => hpp.2.2 x hx y (List.mem_cons_of_mem _ hy)⟩
      · intro j
        have hset : (listed.setIfInBounds i true).getD j true = if i = j then true else listed.getD j true := by
          simp only [Array.getD_eq_getD_getElem?, Array.getElem?_setIfInBounds]
          split
          · simp [hsz]
          · rfl
        rw [hset]
        constructor
        · intro hj
          have hne : i ≠ j := by
            intro e; subst e
            rcases List.mem_append.1 hj with h4 | h4
            · have := hpp.2.2 i h4 i (List.mem_cons_self ..); omega
            · have := (List.pairwise_cons.1 hpp.2.1).1 i h4; omega
          rw [if_neg hne]
          refine (hm j).1 ?_
          rcases List.mem_append.1 hj with h4 | h4
          · exact List.mem_append_left _ h4
          · exact List.mem_append_right _ (List.mem_cons_of_mem _ h4)
        · rintro ⟨h4, h5⟩
          split at h5
          · cases h5
          · rename_i hne
            have := (hm j).2 ⟨h4, h5⟩
            rcases List.mem_append.1 this with h6 | h6
            · exact List.mem_append_left _ h6
            · rcases List.mem_cons.1 h6 with h7 | h7
              · exact absurd h7.symm hne
              · exact List.mem_append_right _ h7
      · intro k o ho hk1 q hq
        have hset : ∀ x, (listed.setIfInBounds i true).getD x false = if i = x then true else listed.getD x false := by
          intro x
          simp only [Array.getD_eq_getD_getElem?, Array.getElem?_setIfInBounds]
          split
          · simp [hsz]
          · rfl
        rw [hset] at hk1 ⊢
        split
        · rfl
        · split at hk1
          · rename_i hik
            subst hik
            have : o = ops[i]! := by rw [getElem!_pos ops i h1]; simpa [h1] using ho.symm
            subst this
            exact h3 q hq
          · exact hc k o ho hk1 q hq
      · simp at hf ⊢; omega
      · obtain ⟨_, v, hsv, rfl⟩ := s1
        exact ha.step (hds i h1) (fun d hd hp n off hv => StepV_new (hnw i h1 d hd hp) hsv hd hv)
end
end Go.Sx
