/- A part of a proof; the last text of this claim says of what. -/
import Derived.Test.YtnlabeglboomlaaGreatDoorV17
set_option linter.unusedVariables false
set_option linter.unusedSimpArgs false
set_option linter.unusedSectionVars false
namespace Go.Sx
open Go Go.RowKit Go.Shelf Go.Proofs
def lightB (na : Nat) (ops : Array Oper) (j : Nat) : Bool :=
  decide (j < na) && (match ops[j]!.op with | .move (.tmp _) => true | _ => false) && ops[j]!.guard.isNone && (anyEdges ops[j]!).isEmpty && Region.free .any ops (Array.replicate ops.size false) j
def orderT (Lt : List Nat) (na : Nat) (ops : Array Oper) : Bool :=
  decide (na ≤ ops.size) && ((List.range ops.size).all fun i => (anyEdges ops[i]!).all (· < i)) &&
  ((List.range ops.size).all fun i => (List.range i).all fun j => (decide (i < na) && freeOf ops [] (dstsOf ops) ops[j]! ops[i]!) || ((masksGo [] ops.toList).getD i 0).testBit j || (decide (na ≤ i) && Lt.contains j)) &&
  Lt.all (lightB na ops) && Region.noSelect ops
section
variable {P : Program} {G : World → Prop} {T : Tab} {ζ : Fr} {N : Nat} {own own' : Nat → Nat} {e e' : Env} {h h' : Hp} {a : Act} {w w' : World} {o : Oper} {v : SV} {Q : Exit → Act → World → Prop} {ops : Array Oper}
theorem ready_iff (listed : Array Bool) (i : Nat) : i ∈ Region.ready .any ops listed ↔ i < ops.size ∧ listed.getD i true = false ∧ ∀ k ∈ anyEdges ops[i]!, listed.getD k false = true := by
  unfold Region.ready
  rw [List.mem_filter, List.mem_range]
  constructor
  · rintro ⟨h1, h2⟩
    rw [Bool.and_eq_true] at h2
    refine ⟨h1, by simpa using h2.1, ?_⟩
    have h3 := h2.2
    rw [Array.getElem?_eq_getElem h1] at h3
    simp only [Option.map_some, Option.getD_some] at h3
    intro k hk
    unfold anyEdges at hk
    rw [List.mem_filterMap] at hk
    obtain ⟨ed, h4, h5⟩ := hk
    split at h5
    · rename_i hb
      cases h5
      rw [getElem!_pos ops i h1] at h4
      rw [Array.all_eq_true_iff_forall_mem] at h3
      have := h3 ed (by simpa using h4)
      rw [hb] at this
      simpa using this
    · cases h5
  · rintro ⟨h1, h2, h3⟩
    refine ⟨h1, ?_⟩
    rw [Bool.and_eq_true]
    refine ⟨by simpa using h2, ?_⟩
    rw [Array.getElem?_eq_getElem h1]
    simp only [Option.map_some, Option.getD_some]
    rw [Array.all_eq_true_iff_forall_mem]
    intro ed hed
    cases hb : Region.binds .any ed with
    | false => simp
    | true =>
      have := h3 ed.on (by unfold anyEdges; rw [List.mem_filterMap, getElem!_pos ops i h1]; exact ⟨ed, by simpa using hed, by rw [if_pos hb]⟩)
      simpa using this
theorem getD_set (listed : Array Bool) (i j : Nat) (d : Bool) (hi : i < listed.size) : (listed.setIfInBounds i true).getD j d = if i = j then true else listed.getD j d := by
  simp only [Array.getD_eq_getD_getElem?, Array.getElem?_setIfInBounds]
  split
  · simp [hi]
  · rfl
theorem getD_tf (listed : Array Bool) (j : Nat) (hj : j < listed.size) : listed.getD j true = listed.getD j false := by
  simp only [Array.getD, hj, dif_pos]
theorem tail_any {Lt : List Nat} {na : Nat} (hB : orderT Lt na ops = true) : ∀ (fuel m : Nat) (listed : Array Bool) (a : Act) (w : World), na ≤ m → fuel = ops.size - m → m ≤ ops.size → listed.size = ops.size → (∀ j, j < ops.size → listed.getD j false = decide (j < m)) →
    (∀ (i : Nat) (o : Oper), ops.toList[i]? = some o → listed.getD i false = true → ∀ k ∈ anyEdges o, listed.getD k false = true) →
    wpOps P ops Q (List.range' m (ops.size - m)) a w → wpAny P .any ops Q fuel listed a w := by
  have hB0 := hB
  unfold orderT at hB
  simp only [Bool.and_eq_true, List.all_eq_true, List.mem_range, Bool.or_eq_true, decide_eq_true_eq] at hB
  obtain ⟨⟨⟨⟨hna, hB1⟩, hB2⟩, hLt⟩, hns⟩ := hB
  intro fuel
  induction fuel with
  | zero =>
    intro m listed a w hm hf hle hs hl hc hw
    have hsz : m = ops.size := by omega
    subst hsz
    rw [Nat.sub_self] at hw
    refine ⟨?_, hw⟩
    cases hr : Region.ready .any ops listed with
    | nil => rfl
    | cons i l =>
      have := (ready_iff listed i).1 (by rw [hr]; exact List.mem_cons_self ..)
      have h2 := hl i this.1
      rw [← getD_tf listed i (by omega), this.2.1] at h2
      simp [this.1] at h2
  | succ fuel ih =>
    intro m listed a w hm hf hle hs hl hc hw
    have hlt : m < ops.size := by omega
    rw [show ops.size - m = (ops.size - (m + 1)) + 1 by omega, List.range'_succ] at hw
    rw [wpOps_cons] at hw
    have hrd : ∀ i, i ∈ Region.ready .any ops listed → i = m := by
      intro i hi
      obtain ⟨h1, h2, h3⟩ := (ready_iff listed i).1 hi
      have h4 := hl i h1
      rw [← getD_tf listed i (by omega), h2] at h4
      have h5 : m ≤ i := by simpa using h4.symm
      by_cases he : i = m
      · exact he
      · exfalso
        rcases hB2 i h1 m (by omega) with (h6 | h6) | h6
        · omega
        rotate_left
        · have := hLt m (by simpa using h6.2)
          unfold lightB at this
          simp only [Bool.and_eq_true, decide_eq_true_eq] at this
          omega
        · have := masks_spec (fun k => listed.getD k false = true) ops.toList hc ops.toList [] (by simp) (by simp) (by simp) i (by simpa using h1) (.inr (by
            intro o ho q hq
            have : o = ops[i]! := by rw [getElem!_pos ops i h1]; simpa [h1] using ho.symm
            subst this
            exact h3 q hq)) m h6
          rw [hl m hlt] at this
          simp at this
    have hmr : m ∈ Region.ready .any ops listed := by
      refine (ready_iff listed m).2 ⟨hlt, ?_, ?_⟩
      · rw [getD_tf listed m (by omega), hl m hlt]; simp
      · intro k hk
        have := hB1 m hlt k hk
        rw [hl k (by omega)]
        simpa using this
    refine ⟨(fun h0 => by rw [h0] at hmr; exact absurd hmr (by simp)), ?_⟩
    intro i hi
    obtain rfl := hrd i hi
    refine wpOp_mono ?_ hw
    intro a1 w1 hw1
    refine ih (i + 1) _ a1 w1 (by omega) (by omega) (by omega) (by simpa using hs) ?_ ?_ hw1
    · intro j hj
      rw [getD_set listed i j false (by omega), hl j hj]
      by_cases hij : i = j
      · subst hij; simp
      · rw [if_neg hij, decide_eq_decide]; omega
    · intro k o ho hk1 q hq
      have hk2 : k < ops.size := by
        have := List.getElem?_eq_some_iff.1 ho
        obtain ⟨h, _⟩ := this
        simpa using h
      have : o = ops[k]! := by rw [getElem!_pos ops k hk2]; simpa [hk2] using ho.symm
      subst this
      have h2 := hB1 k hk2 q hq
      rw [getD_set listed i k false (by omega), hl k hk2] at hk1
      rw [getD_set listed i q false (by omega), hl q (by omega)]
      split
      · rfl
      · split at hk1
        · rename_i hik; subst hik; simpa using h2
        · simp at hk1 ⊢; omega
theorem head_any (tk : TOk P T) (hG : ∀ w', ζ.w.grownBy w' ζ.ob → G w') {Lt : List Nat} {na : Nat} (hB : orderT Lt na ops = true) (hk : ∀ own' a' w', R ζ N own' e' h' a' w' → wpOps P ops Q (List.range' na (ops.size - na)) a' w') :
    ∀ (n : Nat) (listed : Array Bool) (rem : List Nat) (own : Nat → Nat) (e : Env) (h : Hp) (a : Act) (w : World), listed.size = ops.size → rem.Pairwise (· < ·) → (∀ j, j ∈ rem ↔ j < na ∧ listed.getD j true = false) → (∀ j, na ≤ j → j < ops.size → listed.getD j false = false) → (∀ j, j ∈ Lt → listed.getD j false = true) →
      (∀ (i : Nat) (o : Oper), ops.toList[i]? = some o → listed.getD i false = true → ∀ k ∈ anyEdges o, listed.getD k false = true) → n = rem.length →
      RunL P G T ζ.ρ N ops (rem.map fun i => ops[i]!) e h e' h' → R ζ N own e h a w → wpAny P .any ops Q (n + (ops.size - na)) listed a w := by
  have hB0 := hB
  unfold orderT at hB
  simp only [Bool.and_eq_true, List.all_eq_true, List.mem_range, Bool.or_eq_true, decide_eq_true_eq] at hB
  obtain ⟨⟨⟨⟨hna, hB1⟩, hB2⟩, hLt⟩, hns⟩ := hB
  have hds : ∀ j, j < ops.size → ∀ d, ops[j]!.dst = some d → d ∈ dstsOf ops := by
    intro j hj d hd
    unfold dstsOf
    rw [List.mem_filterMap]
    exact ⟨ops[j]!, by rw [getElem!_pos ops j hj]; simp, hd⟩
  intro n
  induction n with
  | zero =>
    intro listed rem own e h a w hs hp hm ht hl hc hf hr r
    have h0 : rem = [] := List.length_eq_zero_iff.1 hf.symm
    subst h0
    simp only [List.map_nil, RunL] at hr
    obtain ⟨rfl, rfl⟩ := hr
    rw [Nat.zero_add]
    refine tail_any hB0 _ na listed a w (Nat.le_refl _) rfl hna hs ?_ hc (hk _ _ _ r)
    intro j hj
    by_cases hjn : j < na
    · have h1 : ¬ (j < na ∧ listed.getD j true = false) := fun h2 => by have := (hm j).2 h2; cases this
      rw [getD_tf listed j (by omega)] at h1
      cases hg : listed.getD j false with
      | true => simp [hjn]
      | false => exact absurd ⟨hjn, hg⟩ h1
    · rw [ht j (by omega) hj]; simp; omega
  | succ n ih =>
    intro listed rem own e h a w hs hp hm ht hl hc hf hr r
    rw [show n + 1 + (ops.size - na) = (n + (ops.size - na)) + 1 by omega]
    refine ⟨?_, ?_⟩
    · intro h0
      cases rem with
      | nil => simp at hf
      | cons i l =>
        exfalso
        have hi := (hm i).1 (List.mem_cons_self ..)
        have : i ∈ Region.ready .any ops listed := by
          refine (ready_iff listed i).2 ⟨by omega, hi.2, ?_⟩
          intro k hk1
          have hlt := hB1 i (by omega) k hk1
          cases hg : listed.getD k false with
          | true => rfl
          | false =>
            exfalso
            rw [← getD_tf listed k (by omega)] at hg
            have h3 := (hm k).2 ⟨by omega, hg⟩
            rcases List.mem_cons.1 h3 with h4 | h4
            · omega
            · have := (List.pairwise_cons.1 hp).1 k h4; omega
        rw [h0] at this
        cases this
    · intro i hi
      obtain ⟨h1, h2, h3⟩ := (ready_iff listed i).1 hi
      have hmask : ∀ j, ((masksGo [] ops.toList).getD i 0).testBit j = true → listed.getD j false = true := by
        intro j h4
        exact masks_spec (fun k => listed.getD k false = true) ops.toList hc ops.toList [] (by simp) (by simp) (by simp) i (by simpa using h1) (.inr (by
            intro o ho q hq
            have : o = ops[i]! := by rw [getElem!_pos ops i h1]; simpa [h1] using ho.symm
            subst this
            exact h3 q hq)) j h4
      have hin : i < na := by
        apply Classical.byContradiction
        intro hge
        cases rem with
        | nil => simp at hf
        | cons j l =>
          have hj := (hm j).1 (List.mem_cons_self ..)
          have hno : ¬ listed.getD j false = true := by
            rw [← getD_tf listed j (by omega), hj.2]; simp
          rcases hB2 i h1 j (by omega) with (h4 | h4) | h4
          · exact hge h4.1
          · exact hno (hmask j h4)
          · exact hno (hl j (by simpa using h4.2))
      obtain ⟨A, B, rfl⟩ := List.append_of_mem ((hm i).2 ⟨hin, h2⟩)
      have hpp := List.pairwise_append.1 hp
      have hA : ∀ j ∈ A, j < ops.size := fun j hj => by have := ((hm j).1 (List.mem_append_left _ hj)).1; omega
      have hfree : ∀ j ∈ A, freeOf ops [] (dstsOf ops) ops[j]! ops[i]! = true := by
        intro j hj
        have hji : j < i := hpp.2.2 j hj i (List.mem_cons_self ..)
        rcases hB2 i h1 j hji with (h4 | h4) | h4
        · exact h4.2
        · exfalso
          have := hmask j h4
          rw [← getD_tf listed j (by have := hA j hj; omega), ((hm j).1 (List.mem_append_left _ hj)).2] at this
          cases this
        · omega
      have ha : ∀ e, Ag [] (dstsOf ops) e := by
        intro e x nm hx
        unfold placeOf at hx
        split at hx
        · split at hx
          · simp at hx
          · simp at hx
        · cases hx
      obtain ⟨e1, h1', s1, hr1⟩ := runL_front (pl := []) B hds (fun j hj d hd hp => by simp at hp) A e h hA hfree r.wf (ha e) hr
      refine step_wp tk hG h1 r s1 ?_
      intro own1 a1 w1 r1
      have hsz : i < listed.size := by omega
      refine ih (listed.setIfInBounds i true) (A ++ B) own1 e1 h1' a1 w1 (by simpa using hs) ?_ ?_ ?_ ?_ ?_ ?_ hr1 r1
      · rw [List.pairwise_append]
        exact ⟨hpp.1, (List.pairwise_cons.1 hpp.2.1).2, fun x hx y hy => hpp.2.2 x hx y (List.mem_cons_of_mem _ hy)⟩
      · intro j
        rw [getD_set listed i j true hsz]
        constructor
        · intro hj
          have hne : i ≠ j := by
            intro e; subst e
            rcases List.mem_append.1 hj with h4 | h4
            · have := hpp.2.2 i h4 i (List.mem_cons_self ..); omega
            · have := (List.pairwise_cons.1 hpp.2.1).1 i h4; omega
          rw [if_neg hne]
          refine (hm j).1 ?_
          rcases List.mem_append.1 hj with h4 | h4
          · exact List.mem_append_left _ h4
          · exact List.mem_append_right _ (List.mem_cons_of_mem _ h4)
        · rintro ⟨h4, h5⟩
          split at h5
          · cases h5
          · rename_i hne
            have := (hm j).2 ⟨h4, h5⟩
            rcases List.mem_append.1 this with h6 | h6
            · exact List.mem_append_left _ h6
            · rcases List.mem_cons.1 h6 with h7 | h7
              · exact absurd h7.symm hne
              · exact List.mem_append_right _ h7
      · intro j h4 h5
        rw [getD_set listed i j false hsz, if_neg (by omega)]
        exact ht j h4 h5
      · intro j h4
        rw [getD_set listed i j false hsz]
        split
        · rfl
        · exact hl j h4
      · intro k o ho hk1 q hq
        rw [getD_set listed i k false hsz] at hk1
        rw [getD_set listed i q false hsz]
        split
        · rfl
        · split at hk1
          · rename_i hik
            subst hik
            have : o = ops[i]! := by rw [getElem!_pos ops i h1]; simpa [h1] using ho.symm
            subst this
            exact h3 q hq
          · exact hc k o ho hk1 q hq
      · simp at hf ⊢; omega
theorem light_any {Ls : List Nat} {na : Nat} (hB : orderT Ls na ops = true) (hQ : ∀ c a w, ¬ Q (.panic c) a w) : ∀ (Lt : List Nat) (fuel : Nat) (listed : Array Bool) (e : Env) (a : Act), listed.size = ops.size → (∀ i ∈ Lt, i < ops.size ∧ lightB na ops i = true) → Lt.Nodup → (∀ i ∈ Lt, listed.getD i true = false) →
    RunL P G T ζ.ρ N ops (Lt.map fun i => ops[i]!) e h e' h' → R ζ N own e h a w →
    (∀ listed' a', listed'.size = ops.size → (∀ j d, listed'.getD j d = if j ∈ Lt then true else listed.getD j d) → h' = h → R ζ N own e' h a' w → wpAny P .any ops Q fuel listed' a' w) → wpAny P .any ops Q (fuel + Lt.length) listed a w
  | [], fuel, listed, e, a, hs, _, _, _, hr, r, hk => by
    simp only [List.map_nil, RunL] at hr
    obtain ⟨rfl, rfl⟩ := hr
    exact hk listed a hs (by simp) rfl r
  | i :: Lt, fuel, listed, e, a, hs, hl, hn, hf, hr, r, hk => by
    simp only [List.map_cons, RunL] at hr
    obtain ⟨e1, h1, hst, hr⟩ := hr
    obtain ⟨hi, hli⟩ := hl i (List.mem_cons_self ..)
    have hli0 := hli
    unfold lightB at hli
    simp only [Bool.and_eq_true, decide_eq_true_eq] at hli
    obtain ⟨⟨⟨⟨_, hmv⟩, hg⟩, hed⟩, hfr⟩ := hli
    have ho : ops[i]? = some ops[i]! := by rw [getElem!_pos ops i hi]; exact Array.getElem?_eq_getElem hi
    have hns : Region.noSelect ops = true := by
      unfold orderT at hB
      simp only [Bool.and_eq_true] at hB
      exact hB.2
    split at hmv
    · rename_i t hop
      have hgn : ops[i]!.guard = none := by simpa using hg
      obtain ⟨hd, v, hs1, rfl⟩ := hst
      have hs2 : v = evO e (.tmp t) ∧ h1 = h := by
        unfold StepV at hs1
        rw [hgn] at hs1
        dsimp only at hs1
        unfold Sop at hs1
        rw [hop] at hs1
        exact hs1
      obtain ⟨rfl, hh1⟩ := hs2
      rw [hh1] at hr
      have hy : Yields P ops ops[i]! (a.eval (.tmp t)) a := .inl ⟨by simp [Region.wanted, hgn], fun w => by simp [execOp, hop]⟩
      have hsz : i < listed.size := by omega
      refine wpAny_take ho hns ?_ ?_ (fun c a w hc => absurd hc (hQ _ _ _)) hy ?_
      · unfold Region.free at hfr ⊢
        rw [ho] at hfr ⊢
        simp only [List.all_eq_true, List.mem_range, Bool.or_eq_true] at hfr ⊢
        intro j hj
        rcases hfr j hj with h4 | h4
        · rcases h4 with h4 | h4
          · exact .inl (.inl h4)
          · simp [hj] at h4
        · exact .inr h4
      · rw [List.contains_iff_mem]
        refine (ready_iff listed i).2 ⟨hi, hf i (List.mem_cons_self ..), ?_⟩
        intro k hk1
        rw [List.isEmpty_iff.1 hed] at hk1
        cases hk1
      · refine light_any hB hQ Lt fuel (listed.setIfInBounds i true) _ _ (by simpa using hs) (fun j hj => hl j (List.mem_cons_of_mem _ hj)) (List.nodup_cons.1 hn).2 ?_ hr (r.put _ _ _ hd (ev_sound r _)) ?_
        · intro j hj
          have hne : i ≠ j := by intro e; subst e; exact (List.nodup_cons.1 hn).1 hj
          rw [getD_set listed i j true hsz, if_neg hne]
          exact hf j (List.mem_cons_of_mem _ hj)
        · intro listed' a' hs' hl' hh r'
          refine hk listed' a' hs' ?_ hh r'
          intro j d
          rw [hl' j d, getD_set listed i j d hsz]
          by_cases hji : i = j
          · subst hji; simp
          · have : ¬ j = i := fun e => hji e.symm
            simp [this, hji]
    · cases hmv
def lightI (Lt : List Nat) (na : Nat) : List Nat := (List.range na).filter fun i => Lt.contains i
def restI (Lt : List Nat) (na : Nat) : List Nat := (List.range na).filter fun i => !Lt.contains i
theorem filter_len (p : Nat → Bool) : ∀ l : List Nat, (l.filter p).length + (l.filter fun i => !p i).length = l.length
  | [] => rfl
  | x :: l => by
    have := filter_len p l
    cases h : p x <;> simp [List.filter_cons, h] <;> omega
theorem RunL_append {l1 l2 : List Oper} {e h e' h'} : RunL P G T ζ.ρ N ops (l1 ++ l2) e h e' h' → ∃ e1 h1, RunL P G T ζ.ρ N ops l1 e h e1 h1 ∧ RunL P G T ζ.ρ N ops l2 e1 h1 e' h' := by
  induction l1 generalizing e h with
  | nil => intro hr; exact ⟨e, h, by simp [RunL], hr⟩
  | cons o l1 ih =>
    intro hr
    simp only [List.cons_append, RunL] at hr
    obtain ⟨e1, h1, hs, hr⟩ := hr
    obtain ⟨e2, h2, g1, g2⟩ := ih hr
    exact ⟨e2, h2, by simp only [RunL]; exact ⟨e1, h1, hs, g1⟩, g2⟩
theorem tl_any (tk : TOk P T) (hG : ∀ w', ζ.w.grownBy w' ζ.ob → G w') {Lt : List Nat} {na : Nat} (hB : orderT Lt na ops = true) (hQ : ∀ c a w, ¬ Q (.panic c) a w) (hr : RunL P G T ζ.ρ N ops ((lightI Lt na ++ restI Lt na).map fun i => ops[i]!) e h e' h') (r : R ζ N own e h a w)
    (hk : ∀ own' a' w', R ζ N own' e' h' a' w' → wpOps P ops Q (List.range' na (ops.size - na)) a' w') : wpAny P .any ops Q ops.size (Array.replicate ops.size false) a w := by
  have hB0 := hB
  unfold orderT at hB
  simp only [Bool.and_eq_true, List.all_eq_true, List.mem_range, Bool.or_eq_true, decide_eq_true_eq] at hB
  obtain ⟨⟨⟨⟨hna, hB1⟩, hB2⟩, hLt⟩, hns⟩ := hB
  rw [List.map_append] at hr
  obtain ⟨e1, h1, g1, g2⟩ := RunL_append hr
  have hlen : ops.size = ((restI Lt na).length + (ops.size - na)) + (lightI Lt na).length := by
    have h1 := filter_len (fun i => Lt.contains i) (List.range na)
    simp only [List.length_range] at h1
    unfold restI lightI
    omega
  have hmemL : ∀ i, i ∈ lightI Lt na ↔ i < na ∧ i ∈ Lt := by
    intro i; unfold lightI; simp [List.mem_filter]
  have hmemR : ∀ i, i ∈ restI Lt na ↔ i < na ∧ ¬ i ∈ Lt := by
    intro i; unfold restI; simp [List.mem_filter]
  have hlight : ∀ i ∈ Lt, i < na := by
    intro i hi
    have := hLt i hi
    unfold lightB at this
    simp only [Bool.and_eq_true, decide_eq_true_eq] at this
    omega
  have hrep : ∀ j d, j < ops.size → (Array.replicate ops.size false).getD j d = false := by
    intro j d hj; simp [Array.getD_eq_getD_getElem?, hj]
  have hgo := light_any (T := T) (ζ := ζ) (own := own) (e' := e1) (h' := h1) (Q := Q) hB0 hQ (lightI Lt na) ((restI Lt na).length + (ops.size - na)) (Array.replicate ops.size false) e a (by simp)
    (fun i hi => by have := (hmemL i).1 hi; exact ⟨by omega, hLt i this.2⟩) (List.Pairwise.filter _ List.nodup_range) (fun i hi => by have := (hmemL i).1 hi; exact hrep i true (by omega)) g1 r ?_
  · rw [← hlen] at hgo
    exact hgo
  · intro listed' a' hs' hl' hh r'
    subst hh
    have hlF : ∀ j, j < ops.size → listed'.getD j false = decide (j ∈ Lt) := by
      intro j hj
      rw [hl' j false, hrep j false hj]
      by_cases hjl : j ∈ Lt
      · rw [if_pos ((hmemL j).2 ⟨hlight j hjl, hjl⟩)]; simp [hjl]
      · rw [if_neg (fun h => hjl ((hmemL j).1 h).2)]; simp [hjl]
    refine head_any tk hG hB0 hk (restI Lt na).length listed' (restI Lt na) own e1 h1 a' w hs' (List.Pairwise.filter _ List.pairwise_lt_range) ?_ ?_ ?_ ?_ rfl g2 r'
    · intro j
      rw [hmemR]
      constructor
      · rintro ⟨h2, h3⟩
        exact ⟨h2, by rw [getD_tf listed' j (by omega), hlF j (by omega)]; simp [h3]⟩
      · rintro ⟨h2, h3⟩
        rw [getD_tf listed' j (by omega), hlF j (by omega)] at h3
        exact ⟨h2, by simpa using h3⟩
    · intro j h2 h3
      rw [hlF j h3]
      have : ¬ j ∈ Lt := fun h => by have := hlight j h; omega
      simp [this]
    · intro j hj
      rw [hlF j (by have := hlight j hj; omega)]
      simp [hj]
    · intro i o ho hl q hq
      have hi : i < ops.size := by
        obtain ⟨h, _⟩ := List.getElem?_eq_some_iff.1 ho
        simpa using h
      have : o = ops[i]! := by rw [getElem!_pos ops i hi]; simpa [hi] using ho.symm
      subst this
      rw [hlF i hi] at hl
      have := hLt i (by simpa using hl)
      unfold lightB at this
      simp only [Bool.and_eq_true, decide_eq_true_eq] at this
      rw [List.isEmpty_iff.1 this.1.2] at hq
      cases hq
end
end Go.Sx
