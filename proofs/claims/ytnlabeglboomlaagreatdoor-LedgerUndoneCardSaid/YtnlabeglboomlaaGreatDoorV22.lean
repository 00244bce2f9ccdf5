/- A part of a proof; the last text of this claim says of what. -/
import Derived.Test.YtnlabeglboomlaaGreatDoorV21
set_option linter.unusedVariables false
set_option linter.unusedSimpArgs false
set_option linter.unusedSectionVars false
namespace Go.Sx
open Go Go.RowKit Go.Shelf Go.Proofs
def litB (b : Bool) : SV := .p (.val (.bool b))
def skipB : SV → Bool
  | .p (.val (.tuple ⟨[]⟩)) => true
  | _ => false
theorem skipB_spec {s : SV} (h : skipB s = true) : s = .p (.val undef) := by
  unfold skipB at h
  split at h
  · rfl
  · cases h
def vcL (P : Program) (G : World → Prop) (T : Tab) (ρ : Rws) (N : Nat) (ops : Array Oper) : List Oper → Env → Hp → (Env → Hp → Prop) → Prop
  | [], e, h, k => k e h
  | o :: os, e, h, k =>
    match o.guard with
    | none => resK P G h o.dst (opS T ρ o.op e h) fun v h' => vcL P G T ρ N ops os (updo e o.dst v) h' k
    | some (j, want) =>
      match (ops[j]?).bind (·.dst) with
      | some d =>
        (match boolOf (e d) with
        | some b => d < N ∧
          (match want with
          | true => vcIf b (resK P G h o.dst (opS T ρ o.op (upd e d (litB true)) h) fun v h' => vcL P G T ρ N ops os (updo (upd e d (litB true)) o.dst v) h' k) (vcL P G T ρ N ops os (updo (upd e d (litB false)) o.dst (.p (.val undef))) h k)
          | false => vcIf b (vcL P G T ρ N ops os (updo (upd e d (litB true)) o.dst (.p (.val undef))) h k) (resK P G h o.dst (opS T ρ o.op (upd e d (litB false)) h) fun v h' => vcL P G T ρ N ops os (updo (upd e d (litB false)) o.dst v) h' k))
        | none => (match skipB (e d) with | true => d < N ∧ vcL P G T ρ N ops os (updo e o.dst (.p (.val undef))) h k | false => False))
      | none => False
section
variable {P : Program} {G : World → Prop} {T : Tab} {ρ : Rws} {N : Nat} {ops : Array Oper}
theorem upd_id {e : Env} {d : Nat} {v : SV} (h : e d = v) : upd e d v = e := by
  funext t
  by_cases ht : t = d
  · subst ht; rw [upd_same, h]
  · rw [upd_ne _ _ ht]
theorem vcL_sound : ∀ (os : List Oper) (e : Env) (h : Hp) (k : Env → Hp → Prop), (∀ o ∈ os, dstOk N o.dst) → vcL P G T ρ N ops os e h k → ∃ e' h', RunL P G T ρ N ops os e h e' h' ∧ k e' h'
  | [], e, h, k, _, hv => ⟨e, h, by simp [RunL], hv⟩
  | o :: os, e, h, k, hd, hv => by
    have hd1 := hd o (List.mem_cons_self ..)
    have hd2 : ∀ o ∈ os, dstOk N o.dst := fun x hx => hd x (List.mem_cons_of_mem _ hx)
    rw [vcL] at hv
    have go : ∀ v h1, StepV P G T ρ N ops o e h v h1 → vcL P G T ρ N ops os (updo e o.dst v) h1 k → ∃ e' h', RunL P G T ρ N ops (o :: os) e h e' h' ∧ k e' h' := by
      intro v h1 s1 s2
      obtain ⟨e', h', g1, g2⟩ := vcL_sound os _ _ k hd2 s2
      exact ⟨e', h', by simp only [RunL]; exact ⟨_, _, ⟨hd1, v, s1, rfl⟩, g1⟩, g2⟩
    split at hv
    · rename_i hg
      obtain ⟨v, h1, s1, s2⟩ := opS_sound hv
      exact go v h1 (by unfold StepV; rw [hg]; exact s1) s2
    · rename_i j want hg
      split at hv
      · rename_i d hdj
        split at hv
        · rename_i b hb
          have hb := boolOf_spec hb
          obtain ⟨hN, hv⟩ := hv
          cases want <;> cases b <;> simp only [vcIf] at hv
          · rw [show litB false = .p (.val (.bool false)) from rfl, upd_id hb] at hv
            obtain ⟨v, h1, s1, s2⟩ := opS_sound hv
            exact go v h1 (by unfold StepV; rw [hg]; exact ⟨d, hdj, hN, .inl ⟨false, hb, by rw [if_pos rfl]; exact s1⟩⟩) s2
          · rw [show litB true = .p (.val (.bool true)) from rfl, upd_id hb] at hv
            exact go _ h (by unfold StepV; rw [hg]; exact ⟨d, hdj, hN, .inl ⟨true, hb, by rw [if_neg (by simp)]; exact ⟨rfl, rfl⟩⟩⟩) hv
          · rw [show litB false = .p (.val (.bool false)) from rfl, upd_id hb] at hv
            exact go _ h (by unfold StepV; rw [hg]; exact ⟨d, hdj, hN, .inl ⟨false, hb, by rw [if_neg (by simp)]; exact ⟨rfl, rfl⟩⟩⟩) hv
          · rw [show litB true = .p (.val (.bool true)) from rfl, upd_id hb] at hv
            obtain ⟨v, h1, s1, s2⟩ := opS_sound hv
            exact go v h1 (by unfold StepV; rw [hg]; exact ⟨d, hdj, hN, .inl ⟨true, hb, by rw [if_pos rfl]; exact s1⟩⟩) s2
        · split at hv
          · rename_i hs
            exact go _ h (by unfold StepV; rw [hg]; exact ⟨d, hdj, hv.1, .inr ⟨skipB_spec hs, rfl, rfl⟩⟩) hv.2
          · exact hv.elim
      · exact hv.elim
end
def opK (P : Program) (G : World → Prop) (T : Tab) (X : Hint) (b : Bool) (d : Option Nat) (ty : TypeId) (op : Op) (e : Env) (h : Hp) (ρ : Rws) (k : SV → Env → Hp → Rws → Prop) : Prop :=
  escK (escOps X b op) e h ρ fun e h ρ => rrK P G T d op e h ρ (opR T X b ty op e ρ) k
def vcR (P : Program) (G : World → Prop) (T : Tab) (N : Nat) (X : Hint) (b : Bool) (ops : Array Oper) : List Oper → Env → Hp → Rws → (Env → Hp → Rws → Prop) → Prop
  | [], e, h, ρ, k => k e h ρ
  | o :: os, e, h, ρ, k =>
    match o.guard with
    | none => opK P G T X b o.dst o.type o.op e h ρ fun v e h ρ => vcR P G T N X b ops os (updo e o.dst v) h ρ k
    | some (j, want) =>
      match (ops[j]?).bind (·.dst) with
      | some d =>
        (match boolOf (e d) with
        | some c => d < N ∧
          (match want with
          | true => vcIf c (opK P G T X b o.dst o.type o.op (upd e d (litB true)) h ρ fun v e h ρ => vcR P G T N X b ops os (updo e o.dst v) h ρ k) (vcR P G T N X b ops os (updo (upd e d (litB false)) o.dst (.p (.val undef))) h ρ k)
          | false => vcIf c (vcR P G T N X b ops os (updo (upd e d (litB true)) o.dst (.p (.val undef))) h ρ k) (opK P G T X b o.dst o.type o.op (upd e d (litB false)) h ρ fun v e h ρ => vcR P G T N X b ops os (updo e o.dst v) h ρ k))
        | none => (match skipB (e d) with | true => d < N ∧ vcR P G T N X b ops os (updo e o.dst (.p (.val undef))) h ρ k | false => False))
      | none => False
section
variable {P : Program} {G : World → Prop} {T : Tab} {ζ : Fr} {N : Nat} {own own' : Nat → Nat} {e e' : Env} {h h' : Hp} {a : Act} {w w' : World} {o : Oper} {X : Hint} {next : Act → World → Prop} {Q : Exit → Act → World → Prop}
theorem opK_sound (tk : TOk P T) (hG : ∀ w', ζ.w.grownBy w' ζ.ob → G w') (r : R ζ N own e h a w) (hd : dstOk N o.dst) {b : Bool} {k : SV → Env → Hp → Rws → Prop} (hv : opK P G T X b o.dst o.type o.op e h ζ.ρ k)
    (hk : ∀ ρ' rv' own' e' h' v x w', R (ζ.rows ρ' rv') N own' e' h' a w' → RepS (ζ.rows ρ' rv') own' h' w' v x → k v e' h' ρ' → next (a.put o.dst x) w') : o.wp P a w next Q := by
  refine escK_sound _ ζ e h _ r hv ?_
  intro ρ1 e1 h1 r1 hv1
  exact opR_sound (ζ := ζ.rows ρ1 ζ.rv) tk hG r1 hd hv1 fun ρ' rv' own' e' h' v x w' r' hx hk' => hk ρ' rv' own' e' h' v x w' r' hx hk'
theorem vcR_sound (tk : TOk P T) (ops : Array Oper) {b : Bool} {k : Env → Hp → Rws → Prop} : ∀ (l : List Nat) (ζ : Fr) (e : Env) (h : Hp) (own : Nat → Nat) (a : Act) (w : World), (∀ w', ζ.w.grownBy w' ζ.ob → G w') → (∀ i ∈ l, i < ops.size) → (∀ i ∈ l, dstOk N ops[i]!.dst) →
    vcR P G T N X b ops (l.map fun i => ops[i]!) e h ζ.ρ k → R ζ N own e h a w → (∀ ρ' rv' own' e' h' a' w', R (ζ.rows ρ' rv') N own' e' h' a' w' → k e' h' ρ' → Q .normal a' w') → wpOps P ops Q l a w
  | [], ζ, e, h, own, a, w, hG, hi, hd, hv, r, hk => hk ζ.ρ ζ.rv own e h a w r hv
  | i :: l, ζ, e, h, own, a, w, hG, hi, hd, hv, r, hk => by
    have hlt := hi i (List.mem_cons_self ..)
    have hd1 := hd i (List.mem_cons_self ..)
    have ho : ops[i]? = some ops[i]! := by rw [getElem!_pos ops i hlt]; exact Array.getElem?_eq_getElem hlt
    have hcont : ∀ (ρ1 : Rws) (rv1 : Nat → Value) own1 e1 h1 a1 w1, R (ζ.rows ρ1 rv1) N own1 e1 h1 a1 w1 → vcR P G T N X b ops (l.map fun i => ops[i]!) e1 h1 ρ1 k → wpOps P ops Q l a1 w1 :=
      fun ρ1 rv1 own1 e1 h1 a1 w1 r1 hv1 => vcR_sound tk ops l (ζ.rows ρ1 rv1) e1 h1 own1 a1 w1 hG (fun j hj => hi j (List.mem_cons_of_mem _ hj)) (fun j hj => hd j (List.mem_cons_of_mem _ hj)) hv1 r1 fun ρ' rv' own' e' h' a' w' r' hk' => hk ρ' rv' own' e' h' a' w' r' hk'
    have hop : ∀ {e : Env}, R ζ N own e h a w → opK P G T X b ops[i]!.dst ops[i]!.type ops[i]!.op e h ζ.ρ (fun v e h ρ => vcR P G T N X b ops (l.map fun i => ops[i]!) (updo e ops[i]!.dst v) h ρ k) → ops[i]!.wp P a w (wpOps P ops Q l) Q :=
      fun r hv => opK_sound tk hG r hd1 hv fun ρ' rv' own' e' h' v x w' r' hx hk' => hcont ρ' rv' own' _ h' _ w' (r'.put _ v x hd1 hx) hk'
    simp only [List.map_cons, vcR] at hv
    simp only [wpOps, ho]
    split at hv
    · rename_i hg
      have hw : Region.wanted ops[i]! (yielded ops a.tmps) = true := by simp [Region.wanted, hg]
      rw [if_pos hw]
      exact .inl (hop r hv)
    · rename_i j want hg
      split at hv
      · rename_i d hdj
        split at hv
        · rename_i c hb
          have hb := boolOf_spec hb
          obtain ⟨hN, hv⟩ := hv
          have hy := yielded_of r hdj hb hN
          cases want <;> cases c <;> simp only [vcIf] at hv
          · rw [show litB false = .p (.val (.bool false)) from rfl, upd_id hb] at hv
            have hw : Region.wanted ops[i]! (yielded ops a.tmps) = true := by simp [Region.wanted, hg, hy]
            rw [if_pos hw]
            exact .inl (hop r hv)
          · rw [show litB true = .p (.val (.bool true)) from rfl, upd_id hb] at hv
            have hw : ¬ Region.wanted ops[i]! (yielded ops a.tmps) = true := by simp [Region.wanted, hg, hy]
            rw [if_neg hw]
            exact hcont ζ.ρ ζ.rv _ _ _ _ _ (r.put _ (.p (.val undef)) undef hd1 (by show RepP _ _ _ _; simp only [RepP])) hv
          · rw [show litB false = .p (.val (.bool false)) from rfl, upd_id hb] at hv
            have hw : ¬ Region.wanted ops[i]! (yielded ops a.tmps) = true := by simp [Region.wanted, hg, hy]
            rw [if_neg hw]
            exact hcont ζ.ρ ζ.rv _ _ _ _ _ (r.put _ (.p (.val undef)) undef hd1 (by show RepP _ _ _ _; simp only [RepP])) hv
          · rw [show litB true = .p (.val (.bool true)) from rfl, upd_id hb] at hv
            have hw : Region.wanted ops[i]! (yielded ops a.tmps) = true := by simp [Region.wanted, hg, hy]
            rw [if_pos hw]
            exact .inl (hop r hv)
        · split at hv
          · rename_i hs
            have hy := yielded_un r hdj (skipB_spec hs) hv.1
            have hw : ¬ Region.wanted ops[i]! (yielded ops a.tmps) = true := by simp [Region.wanted, hg, hy]
            rw [if_neg hw]
            exact hcont ζ.ρ ζ.rv _ _ _ _ _ (r.put _ (.p (.val undef)) undef hd1 (by show RepP _ _ _ _; simp only [RepP])) hv.2
          · exact hv.elim
      · exact hv.elim
end
def opAt : List Oper → Nat → List Oper
  | [], _ => []
  | o :: _, 0 => [o]
  | _ :: l, n + 1 => opAt l n
theorem opAt_eq : ∀ (l : List Oper) (i : Nat), i < l.length → opAt l i = [l[i]!]
  | [], i, h => by simp at h
  | o :: l, 0, h => by simp [opAt]
  | o :: l, n + 1, h => by rw [opAt, opAt_eq l n (by simpa using h)]; simp
def mvOf : Oper → Option (Option Nat × Operand)
  | ⟨d, .move x, _, _, _, _⟩ => some (d, x)
  | _ => none
def mvAt : List Oper → Nat → Option (Option Nat × Operand)
  | [], _ => none
  | o :: _, 0 => mvOf o
  | _ :: l, n + 1 => mvAt l n
theorem mvAt_eq : ∀ (l : List Oper) (i : Nat), i < l.length → mvAt l i = mvOf l[i]!
  | [], i, h => by simp at h
  | o :: l, 0, h => by simp [mvAt]
  | o :: l, n + 1, h => by rw [mvAt, mvAt_eq l n (by simpa using h)]; simp
def vcT (P : Program) (G : World → Prop) (T : Tab) (N : Nat) (X : Hint) (b : Bool) (ol : List Oper) : ET → Env → Hp → Rws → (Env → Hp → Rws → Prop) → Prop
  | .done, e, h, ρ, k => k e h ρ
  | .step i s, e, h, ρ, k => vcR P G T N X b ol.toArray (opAt ol i) e h ρ fun e h ρ => vcT P G T N X b ol s e h ρ k
  | .free i s, e, h, ρ, k => (match mvAt ol i with | some (d, x) => vcT P G T N X b ol s (updo e d (evO e x)) h ρ k | none => False)
  | .alt i s t, e, h, ρ, k => vcR P G T N X b ol.toArray (opAt ol i) e h ρ (fun e h ρ => vcT P G T N X b ol s e h ρ k) ∧ vcT P G T N X b ol t e h ρ k
def headsT : ET → List Nat
  | .step i _ => [i]
  | .alt i _ t => i :: headsT t
  | _ => []
def coverT (ops : Array Oper) (t : ET) (L : Array Bool) : Bool := match t with | .free _ _ => true | t => (Region.ready .any ops L).all fun i => (headsT t).contains i
def isStepT : ET → Bool
  | .step _ _ => true
  | .alt _ _ _ => true
  | _ => false
def chkT (ops : Array Oper) : ET → Nat → Array Bool → Bool
  | .done, 0, L => (Region.ready .any ops L).isEmpty
  | .step i s, n + 1, L => decide (i < ops.size) && (Region.ready .any ops L).contains i && coverT ops s (L.setIfInBounds i true) && chkT ops s n (L.setIfInBounds i true)
  | .free i s, n + 1, L => decide (i < ops.size) && (Region.ready .any ops L).contains i && lightB ops.size ops i && coverT ops s (L.setIfInBounds i true) && chkT ops s n (L.setIfInBounds i true)
  | .alt i s t, n + 1, L => decide (i < ops.size) && (Region.ready .any ops L).contains i && coverT ops s (L.setIfInBounds i true) && chkT ops s n (L.setIfInBounds i true) && isStepT t && chkT ops t (n + 1) L
  | _, _, _ => false
def entB (ops : Array Oper) (t : ET) : Bool := Region.noSelect ops && coverT ops t (Array.replicate ops.size false) && chkT ops t ops.size (Array.replicate ops.size false)
def subT : ET → List (Nat × ET)
  | .step i s => [(i, s)]
  | .alt i s t => (i, s) :: subT t
  | _ => []
section
variable {P : Program} {G : World → Prop} {T : Tab} {ζ : Fr} {N : Nat} {own own' : Nat → Nat} {e e' : Env} {h h' : Hp} {a : Act} {w w' : World} {o : Oper} {X : Hint} {next : Act → World → Prop} {Q : Exit → Act → World → Prop}
theorem vcR_step (tk : TOk P T) (ops : Array Oper) {b : Bool} {k : Env → Hp → Rws → Prop} (hG : ∀ w', ζ.w.grownBy w' ζ.ob → G w') {i : Nat} (hlt : i < ops.size) (hd1 : dstOk N ops[i]!.dst) (hv : vcR P G T N X b ops [ops[i]!] e h ζ.ρ k) (r : R ζ N own e h a w)
    (hk : ∀ ρ' rv' own' e' h' a' w', R (ζ.rows ρ' rv') N own' e' h' a' w' → k e' h' ρ' → next a' w') : wpOp P ops Q i next a w := by
  have ho : ops[i]? = some ops[i]! := by rw [getElem!_pos ops i hlt]; exact Array.getElem?_eq_getElem hlt
  have hop : ∀ {e : Env}, R ζ N own e h a w → opK P G T X b ops[i]!.dst ops[i]!.type ops[i]!.op e h ζ.ρ (fun v e h ρ => k (updo e ops[i]!.dst v) h ρ) → ops[i]!.wp P a w next Q :=
    fun r hv => opK_sound tk hG r hd1 hv fun ρ' rv' own' e' h' v x w' r' hx hk' => hk ρ' rv' own' _ h' _ w' (r'.put _ v x hd1 hx) hk'
  simp only [vcR] at hv
  simp only [wpOp, ho]
  split at hv
  · rename_i hg
    have hw : Region.wanted ops[i]! (yielded ops a.tmps) = true := by simp [Region.wanted, hg]
    rw [if_pos hw]
    exact .inl (hop r hv)
  · rename_i j want hg
    split at hv
    · rename_i d hdj
      split at hv
      · rename_i c hb
        have hb := boolOf_spec hb
        obtain ⟨hN, hv⟩ := hv
        have hy := yielded_of r hdj hb hN
        cases want <;> cases c <;> simp only [vcIf] at hv
        · rw [show litB false = .p (.val (.bool false)) from rfl, upd_id hb] at hv
          have hw : Region.wanted ops[i]! (yielded ops a.tmps) = true := by simp [Region.wanted, hg, hy]
          rw [if_pos hw]
          exact .inl (hop r hv)
        · rw [show litB true = .p (.val (.bool true)) from rfl, upd_id hb] at hv
          have hw : ¬ Region.wanted ops[i]! (yielded ops a.tmps) = true := by simp [Region.wanted, hg, hy]
          rw [if_neg hw]
          exact hk ζ.ρ ζ.rv _ _ _ _ _ (r.put _ (.p (.val undef)) undef hd1 (by show RepP _ _ _ _; simp only [RepP])) hv
        · rw [show litB false = .p (.val (.bool false)) from rfl, upd_id hb] at hv
          have hw : ¬ Region.wanted ops[i]! (yielded ops a.tmps) = true := by simp [Region.wanted, hg, hy]
          rw [if_neg hw]
          exact hk ζ.ρ ζ.rv _ _ _ _ _ (r.put _ (.p (.val undef)) undef hd1 (by show RepP _ _ _ _; simp only [RepP])) hv
        · rw [show litB true = .p (.val (.bool true)) from rfl, upd_id hb] at hv
          have hw : Region.wanted ops[i]! (yielded ops a.tmps) = true := by simp [Region.wanted, hg, hy]
          rw [if_pos hw]
          exact .inl (hop r hv)
      · split at hv
        · rename_i hs
          have hy := yielded_un r hdj (skipB_spec hs) hv.1
          have hw : ¬ Region.wanted ops[i]! (yielded ops a.tmps) = true := by simp [Region.wanted, hg, hy]
          rw [if_neg hw]
          exact hk ζ.ρ ζ.rv _ _ _ _ _ (r.put _ (.p (.val undef)) undef hd1 (by show RepP _ _ _ _; simp only [RepP])) hv.2
        · exact hv.elim
    · exact hv.elim
theorem listAt (ops : Array Oper) (i : Nat) (h : i < ops.size) : ops.toList[i]! = ops[i]! := by
  rw [getElem!_pos ops i h, getElem!_pos ops.toList i (by simpa using h)]; simp
theorem subT_heads : ∀ t : ET, (subT t).map (·.1) = headsT t
  | .step i s => rfl
  | .alt i s t => by rw [subT, headsT, List.map_cons, subT_heads t]
  | .done => rfl
  | .free _ _ => rfl
theorem subT_all {ops : Array Oper} {n : Nat} {L : Array Bool} {b : Bool} {ρ : Rws} {k : Env → Hp → Rws → Prop} : ∀ t : ET, isStepT t = true → chkT ops t (n + 1) L = true → vcT P G T N X b ops.toList t e h ρ k →
    subT t ≠ [] ∧ ∀ p ∈ subT t, p.1 < ops.size ∧ p.1 ∈ Region.ready .any ops L ∧ coverT ops p.2 (L.setIfInBounds p.1 true) = true ∧ chkT ops p.2 n (L.setIfInBounds p.1 true) = true ∧ vcR P G T N X b ops [ops[p.1]!] e h ρ (fun e h ρ => vcT P G T N X b ops.toList p.2 e h ρ k)
  | .done, h, _, _ => by cases h
  | .free _ _, h, _, _ => by cases h
  | .step i s, _, hc, hv => by
    simp only [chkT, Bool.and_eq_true, decide_eq_true_eq, List.contains_iff_mem] at hc
    obtain ⟨⟨⟨h1, h2⟩, h3⟩, h4⟩ := hc
    refine ⟨by simp [subT], fun p hp => ?_⟩
    simp only [subT, List.mem_singleton] at hp
    subst hp
    simp only [vcT] at hv
    rw [opAt_eq _ _ (by simpa using h1), listAt ops i h1] at hv
    exact ⟨h1, h2, h3, h4, hv⟩
  | .alt i s t, _, hc, hv => by
    simp only [chkT, Bool.and_eq_true, decide_eq_true_eq, List.contains_iff_mem] at hc
    obtain ⟨⟨⟨⟨⟨h1, h2⟩, h3⟩, h4⟩, h5⟩, h6⟩ := hc
    simp only [vcT] at hv
    obtain ⟨hv1, hv2⟩ := hv
    rw [opAt_eq _ _ (by simpa using h1), listAt ops i h1] at hv1
    refine ⟨by simp [subT], fun p hp => ?_⟩
    rcases List.mem_cons.1 hp with rfl | hp
    · exact ⟨h1, h2, h3, h4, hv1⟩
    · exact (subT_all t h5 h6 hv2).2 p hp
theorem vcT_sound (tk : TOk P T) (ops : Array Oper) (hns : Region.noSelect ops = true) (hQ : ∀ c a w, ¬ Q (.panic c) a w) (hds : ∀ i, i < ops.size → dstOk N ops[i]!.dst) {b : Bool} {k : Env → Hp → Rws → Prop} : ∀ (n : Nat) (t : ET) (ζ : Fr) (e : Env) (h : Hp) (own : Nat → Nat) (a : Act) (w : World) (L : Array Bool), (∀ w', ζ.w.grownBy w' ζ.ob → G w') →
    chkT ops t n L = true → coverT ops t L = true → vcT P G T N X b ops.toList t e h ζ.ρ k → R ζ N own e h a w → (∀ ρ' rv' own' e' h' a' w', R (ζ.rows ρ' rv') N own' e' h' a' w' → k e' h' ρ' → Q .normal a' w') → wpAny P .any ops Q n L a w := by
  intro n
  induction n with
  | zero =>
    intro t ζ e h own a w L hG hc hcov hv r hk
    cases t with
    | done =>
      simp only [chkT] at hc
      exact ⟨List.isEmpty_iff.1 hc, hk ζ.ρ ζ.rv own e h a w r hv⟩
    | step i s => simp [chkT] at hc
    | free i s => simp [chkT] at hc
    | alt i s t => simp [chkT] at hc
  | succ n ih =>
    intro t ζ e h own a w L hG hc hcov hv r hk
    have main : isStepT t = true → coverT ops t L = ((Region.ready .any ops L).all fun i => (headsT t).contains i) → wpAny P .any ops Q (n + 1) L a w := by
      intro hst hct
      rw [hct] at hcov
      obtain ⟨hne, hall⟩ := subT_all t hst hc hv
      refine ⟨fun h0 => ?_, fun i hi => ?_⟩
      · exfalso
        cases hs : subT t with
        | nil => exact hne hs
        | cons p l =>
          have := (hall p (by rw [hs]; simp)).2.1
          rw [h0] at this; cases this
      · have h1 := List.all_eq_true.1 hcov i hi
        rw [List.contains_iff_mem, ← subT_heads, List.mem_map] at h1
        obtain ⟨p, hp, rfl⟩ := h1
        obtain ⟨g1, g2, g3, g4, g5⟩ := hall p hp
        exact vcR_step tk ops hG g1 (hds _ g1) g5 r fun ρ' rv' own' e' h' a' w' r' hk' => ih p.2 (ζ.rows ρ' rv') e' h' own' a' w' _ hG g4 g3 hk' r' fun ρ2 rv2 own2 e2 h2 a2 w2 r2 hk2 => hk ρ2 rv2 own2 e2 h2 a2 w2 r2 hk2
    cases t with
    | done => simp [chkT] at hc
    | step i s => exact main rfl rfl
    | alt i s t => exact main rfl rfl
    | free i s =>
      simp only [chkT, Bool.and_eq_true, decide_eq_true_eq] at hc
      obtain ⟨⟨⟨⟨h1, h2⟩, hl⟩, h3⟩, h4⟩ := hc
      have ho : ops[i]? = some ops[i]! := by rw [getElem!_pos ops i h1]; exact Array.getElem?_eq_getElem h1
      simp only [vcT] at hv
      rw [mvAt_eq _ _ (by simpa using h1)] at hv
      rw [listAt ops i h1] at hv
      unfold lightB at hl
      simp only [Bool.and_eq_true, decide_eq_true_eq] at hl
      obtain ⟨⟨⟨⟨_, hmv⟩, hg⟩, hed⟩, hfr⟩ := hl
      have hgn : ops[i]!.guard = none := by simpa using hg
      split at hmv
      · rename_i t hop
        have hmo : mvOf ops[i]! = some (ops[i]!.dst, .tmp t) := by
          generalize ops[i]! = o at hop
          obtain ⟨d, op, ty, p, af, gu⟩ := o
          simp only at hop
          subst hop
          rfl
        rw [hmo] at hv
        simp only at hv
        have hy : Yields P ops ops[i]! (a.eval (.tmp t)) a := .inl ⟨by simp [Region.wanted, hgn], fun w => by simp [execOp, hop]⟩
        refine wpAny_take ho hns ?_ h2 (fun c a w hc => absurd hc (hQ _ _ _)) hy ?_
        · unfold Region.free at hfr ⊢
          rw [ho] at hfr ⊢
          simp only [List.all_eq_true, List.mem_range, Bool.or_eq_true] at hfr ⊢
          intro j hj
          rcases hfr j hj with h5 | h5
          · rcases h5 with h5 | h5
            · exact .inl (.inl h5)
            · simp [hj] at h5
          · exact .inr h5
        · exact ih s ζ _ h own _ w _ hG h4 h3 hv (r.put _ _ _ (hds i h1) (ev_sound r _)) hk
      · cases hmv
end
inductive X where
  | normal | exit (id : Nat) | ret
def thenX (Q : X → Env → Hp → Rws → Prop) (k : Env → Hp → Rws → Prop) : X → Env → Hp → Rws → Prop
  | .normal => k
  | .exit id => Q (.exit id)
  | .ret => Q .ret
def blockX (id : Nat) (Q : X → Env → Hp → Rws → Prop) : X → Env → Hp → Rws → Prop
  | .normal => Q .normal
  | .exit i => if i = id then Q .normal else Q (.exit i)
  | .ret => Q .ret
abbrev Ls := List (Nat × SV)
abbrev Lh := List (Nat × TypeId × List PV)
abbrev Lr := List (Nat × RowE)
def envL (l : Ls) : Env := fun t => match l.find? (fun x => x.1 == t) with | some x => x.2 | none => .any
def hpL (l : Lh) : Hp := fun t => match l.find? (fun x => x.1 == t) with | some x => some x.2 | none => none
def rwL (l : Lr) : Rws := fun t => match l.find? (fun x => x.1 == t) with | some x => some x.2 | none => none
def boxesOk (l : Ls) (lh : Lh) (lr : Lr) : Bool := l.all fun x => match x.2 with | .box nm _ => lh.any (fun y => y.1 == nm) | .orow nm => lr.any (fun y => y.1 == nm) | .rowp nm _ => lr.any (fun y => y.1 == nm) | _ => true
def Is (l : Ls) (lh : Lh) (lr : Lr) (e : Env) (h : Hp) (ρ : Rws) : Prop := (∀ x ∈ l, e x.1 = x.2) ∧ (∀ x ∈ lh, h x.1 = some x.2) ∧ (∀ x ∈ lr, ρ x.1 = some x.2) ∧ boxesOk l lh lr = true
def plO (e : Env) (ops : Array Oper) : List (Nat × Nat) := ops.toList.filterMap fun o =>
  match o.op with
  | .load _ (.tmp t) | .store _ (.tmp t) _ => (match e t with | .box nm _ => some (t, nm) | _ => none)
  | _ => none
def newS (d : Nat) : SV → Option (Nat × Nat)
  | .box _ _ => none
  | _ => some (d, d)
def plN (e : Env) (ops : Array Oper) : List (Nat × Nat) := ops.toList.filterMap fun o =>
  match o.op, o.dst with
  | .alloc _, some d => newS d (e d)
  | .box _ _, some d => newS d (e d)
  | _, _ => none
def plOf (e : Env) (ops : Array Oper) : List (Nat × Nat) := plO e ops ++ plN e ops
def dstsB (N : Nat) (ops : Array Oper) : Bool := ops.toList.all fun o => match o.dst with | some d => decide (d < N) | none => true
def codeB (ex : List Nat) (N : Nat) : Code → Bool
  | .region id ops draw => dstsB N ops && (!draw || ex.contains id || orderB [] ops)
  | .seq a b => codeB ex N a && codeB ex N b
  | .cond _ a b => codeB ex N a && codeB ex N b
  | .block _ b => codeB ex N b
  | .loop b => codeB ex N b
  | _ => true
def condK (b : Option Bool) (A B : Prop) : Prop := match b with | some t => vcIf t A B | none => False
def regEsc (Y : Hint) (ops : Array Oper) : List Operand := ops.toList.flatMap fun o => escOps Y false o.op
def moveOp : Op → List Operand
  | .move x => [x]
  | _ => []
def regMov (b : Bool) (ops : Array Oper) : List Operand := match b with | true => ops.toList.flatMap fun o => moveOp o.op | false => []
def isStore : Op → Bool
  | .store _ _ _ => true
  | _ => false
def headN : List Oper → Nat
  | [] => 0
  | o :: l => match isStore o.op with | true => 0 | false => headN l + 1
def enOf : List (Nat × ET) → Nat → Option ET
  | [], _ => none
  | (i, L) :: r, n => match n == i with | true => some L | false => enOf r n
def tlOf : List (Nat × List Nat) → Nat → Option (List Nat)
  | [], _ => none
  | (i, L) :: r, n => match n == i with | true => some L | false => tlOf r n
def cutX (id : Nat) (C : Env → Hp → Rws → Prop) (Q : X → Env → Hp → Rws → Prop) : X → Env → Hp → Rws → Prop
  | .normal => C
  | .exit i => if i = id then C else Q (.exit i)
  | .ret => Q .ret
def vc (P : Program) (G : World → Prop) (T : Tab) (N : Nat) (Y : Hint) : Code → Env → Hp → Rws → (X → Env → Hp → Rws → Prop) → Prop
  | .skip, e, h, ρ, Q => Q .normal e h ρ
  | .label _, e, h, ρ, Q => Q .normal e h ρ
  | .region id ops draw, e, h, ρ, Q => (match draw with
    | false => vcR P G T N Y (Y.bw.contains id) ops ops.toList e h ρ fun e h ρ => Q .normal e h ρ
    | true => (match enOf Y.en id with
      | some t => entB ops t = true ∧ vcT P G T N Y (Y.bw.contains id) ops.toList t e h ρ fun e h ρ => Q .normal e h ρ
      | none => (match tlOf Y.tl id with
      | none => escK (regEsc Y ops ++ regMov (Y.fz.contains id) ops) e h ρ fun e h ρ => (Y.ex.contains id = true → orderB (plOf e ops) ops = true) ∧ vcL P G T ρ N ops ops.toList e h (fun e h => Q .normal e h ρ)
      | some Lt => escK (regEsc Y ops ++ regMov (Y.fz.contains id) ops) e h ρ fun e h ρ => orderT Lt (headN ops.toList) ops = true ∧ vcL P G T ρ N ops ((lightI Lt (headN ops.toList) ++ restI Lt (headN ops.toList)).map fun i => ops[i]!) e h (fun e h => vcR P G T N Y false ops (ops.toList.drop (headN ops.toList)) e h ρ fun e h ρ => Q .normal e h ρ))))
  | .seq a b, e, h, ρ, Q => vc P G T N Y a e h ρ (thenX Q fun e h ρ => vc P G T N Y b e h ρ Q)
  | .cond c x y, e, h, ρ, Q => condK (boolOf (evO e c)) (vc P G T N Y x e h ρ Q) (vc P G T N Y y e h ρ Q)
  | .block id b, e, h, ρ, Q => (match Y.ct.contains id with
    | false => vc P G T N Y b e h ρ (blockX id Q)
    | true => ∃ J : Ls → Lh → Lr → Prop, vc P G T N Y b e h ρ (cutX id (fun e h ρ => ∃ l lh lr, J l lh lr ∧ Is l lh lr e h ρ) Q) ∧ ∀ l lh lr, J l lh lr → Q .normal (envL l) (hpL lh) (rwL lr))
  | .loop b, e, h, ρ, Q => ∃ I : Nat → Ls → Lh → Lr → Prop, (∃ n l lh lr, I n l lh lr ∧ Is l lh lr e h ρ) ∧
      ∀ n l lh lr, I n l lh lr → vc P G T N Y b (envL l) (hpL lh) (rwL lr) (thenX Q fun e h ρ => ∃ m l' lh' lr', m < n ∧ I m l' lh' lr' ∧ Is l' lh' lr' e h ρ)
  | .exit id, e, h, ρ, Q => Q (.exit id) e h ρ
  | .ret, e, h, ρ, Q => Q .ret e h ρ
  | _, _, _, _, _ => False
section
variable {P : Program} {G : World → Prop} {T : Tab} {ζ : Fr} {N : Nat} {own own' : Nat → Nat} {e e' : Env} {h h' : Hp} {a : Act} {w w' : World}
def PostX (ζ : Fr) (N : Nat) (Q : X → Env → Hp → Rws → Prop) : Exit → Act → World → Prop
  | .normal, a, w => ∃ rv own e h ρ, R (ζ.rows ρ rv) N own e h a w ∧ Q .normal e h ρ
  | .exit id, a, w => ∃ rv own e h ρ, R (ζ.rows ρ rv) N own e h a w ∧ Q (.exit id) e h ρ
  | .ret, a, w => ∃ rv own e h ρ, R (ζ.rows ρ rv) N own e h a w ∧ Q .ret e h ρ
  | _, _, _ => False
theorem find_any {α : Type} {l : List (Nat × α)} {n : Nat} (h : l.any (fun y => y.1 == n) = true) : ∃ x, l.find? (fun x => x.1 == n) = some x := by
  rw [List.any_eq_true] at h
  obtain ⟨y, h5, h6⟩ := h
  cases hf : l.find? (fun x => x.1 == n) with
  | some x => exact ⟨x, rfl⟩
  | none => exact absurd h6 (List.find?_eq_none.1 hf y h5)
theorem R.weaken (r : R ζ N own e h a w) {l : Ls} {lh : Lh} {lr : Lr} (hi : Is l lh lr e h ζ.ρ) : R (ζ.rows (rwL lr) ζ.rv) N own (envL l) (hpL lh) a w := by
  obtain ⟨h1, h2, h2r, h3⟩ := hi
  have r1 : R ζ N own (envL l) h a w := r.forget (envL l) (by
    intro t
    unfold envL
    split
    · rename_i x hx
      have e1 := List.find?_some hx
      have e2 := List.mem_of_find?_eq_some hx
      rw [beq_iff_eq] at e1
      subst e1
      exact .inl (h1 x e2).symm
    · exact .inr rfl)
  have hsl : ∀ t s, envL l t = s → s ≠ .any → ∃ x ∈ l, x.2 = s := by
    intro t s ht hne
    unfold envL at ht
    split at ht
    · rename_i x hx
      exact ⟨x, List.mem_of_find?_eq_some hx, ht⟩
    · exact absurd ht.symm hne
  refine r1.drop (hpL lh) ?_ (rwL lr) ?_ ?_ ?_ ?_
  · intro n
    unfold hpL
    split
    · rename_i x hx
      have e1 := List.find?_some hx
      have e2 := List.mem_of_find?_eq_some hx
      rw [beq_iff_eq] at e1
      subst e1
      exact .inl (h2 x e2).symm
    · exact .inr rfl
  · intro n
    unfold rwL
    split
    · rename_i x hx
      have e1 := List.find?_some hx
      have e2 := List.mem_of_find?_eq_some hx
      rw [beq_iff_eq] at e1
      subst e1
      exact .inl (h2r x e2).symm
    · exact .inr rfl
  · intro t nm off ht
    obtain ⟨x, hx, hs⟩ := hsl t _ ht (by simp)
    have h4 := List.all_eq_true.1 h3 x hx
    rw [hs] at h4
    obtain ⟨y, hy⟩ := find_any h4
    unfold hpL
    rw [hy]; simp
  · intro t nm ht
    obtain ⟨x, hx, hs⟩ := hsl t _ ht (by simp)
    have h4 := List.all_eq_true.1 h3 x hx
    rw [hs] at h4
    obtain ⟨y, hy⟩ := find_any h4
    unfold rwL
    rw [hy]; simp
  · intro t nm off ht
    obtain ⟨x, hx, hs⟩ := hsl t _ ht (by simp)
    have h4 := List.all_eq_true.1 h3 x hx
    rw [hs] at h4
    obtain ⟨y, hy⟩ := find_any h4
    unfold rwL
    rw [hy]; simp
theorem exists_least {p : Nat → Prop} (h : ∃ n, p n) : ∃ n, p n ∧ ∀ m, p m → n ≤ m := by
  obtain ⟨n, hn⟩ := h
  induction n using Nat.strongRecOn with
  | _ n ih =>
    by_cases hs : ∃ m, m < n ∧ p m
    · obtain ⟨m, h1, h2⟩ := hs
      exact ih m h1 h2
    · exact ⟨n, hn, fun m hm => Nat.le_of_not_lt fun hlt => hs ⟨m, hlt, hm⟩⟩
open Classical in
noncomputable def least (p : Nat → Prop) : Nat := if h : ∃ n, p n then (exists_least h).choose else 0
theorem least_spec {p : Nat → Prop} (h : ∃ n, p n) : p (least p) ∧ ∀ m, p m → least p ≤ m := by
  unfold least
  rw [dif_pos h]
  exact (exists_least h).choose_spec
theorem plO_mem {ops : Array Oper} {q : Nat × Nat} (hq : q ∈ plO e ops) : ∃ off, e q.1 = .box q.2 off := by
  unfold plO at hq
  rw [List.mem_filterMap] at hq
  obtain ⟨o, _, h3⟩ := hq
  have key : ∀ t', (match e t' with | .box nm _ => some (t', nm) | _ => none) = some q → ∃ off, e q.1 = .box q.2 off := by
    intro t' h4
    split at h4
    · rename_i m off he
      cases h4
      exact ⟨off, he⟩
    · cases h4
  split at h3
  · exact key _ h3
  · exact key _ h3
  · cases h3
theorem newS_some {d : Nat} {s : SV} {q : Nat × Nat} (h : newS d s = some q) : q = (d, d) ∧ ∀ n off, s ≠ .box n off := by
  unfold newS at h
  split at h
  · cases h
  · rename_i hb; cases h; exact ⟨rfl, fun n off e => hb n off e⟩
theorem plN_mem {ops : Array Oper} {q : Nat × Nat} (hq : q ∈ plN e ops) : q.2 = q.1 ∧ q.1 ∈ dstsOf ops ∧ ∀ n off, e q.1 ≠ .box n off := by
  unfold plN at hq
  rw [List.mem_filterMap] at hq
  obtain ⟨o, ho, h3⟩ := hq
  split at h3
  · rename_i d _ hd
    obtain ⟨rfl, h5⟩ := newS_some h3
    exact ⟨rfl, List.mem_filterMap.2 ⟨o, ho, hd⟩, h5⟩
  · rename_i d _ hd
    obtain ⟨rfl, h5⟩ := newS_some h3
    exact ⟨rfl, List.mem_filterMap.2 ⟨o, ho, hd⟩, h5⟩
  · cases h3
theorem Ag_plOf (ops : Array Oper) : Ag (plOf e ops) (dstsOf ops) e := by
  intro x nm hx n off hb
  unfold placeOf at hx
  split at hx
  · rename_i t
    split at hx
    · rename_i hc
      split at hx
      · rename_i hp
        injection hx with hx
        subst hx
        have hp2 : (t, t) ∈ plOf e ops := by simpa using hp
        unfold plOf at hp2
        rcases List.mem_append.1 hp2 with h1 | h1
        · obtain ⟨off', h2⟩ := plO_mem h1
          simp only [evO] at hb
          rw [h2] at hb; cases hb; rfl
        · exact absurd hb ((plN_mem h1).2.2 n off)
      · cases hx
    · rename_i hc
      obtain ⟨q, h1, h2⟩ := Option.map_eq_some_iff.1 hx
      have e1 := List.find?_some h1
      have e2 := List.mem_of_find?_eq_some h1
      rw [beq_iff_eq] at e1
      subst e1
      unfold plOf at e2
      rcases List.mem_append.1 e2 with h3 | h3
      · obtain ⟨off', h4⟩ := plO_mem h3
        simp only [evO] at hb
        rw [h4] at hb; cases hb; exact h2
      · exact absurd (by simpa using (plN_mem h3).2.1) hc
  · cases hx
theorem vc_sound {Y : Hint} (hmix : P.follows .mixedOrders = true) (tk : TOk P T) : ∀ (c : Code) (ζ : Fr) (e : Env) (h : Hp) (Q : X → Env → Hp → Rws → Prop) (own : Nat → Nat) (a : Act) (w : World), (∀ w', ζ.w.grownBy w' ζ.ob → G w') → codeB Y.ex N c = true → vc P G T N Y c e h ζ.ρ Q → R ζ N own e h a w → c.wp P (PostX ζ N Q) a w
  | .skip, ζ, e, h, Q, own, a, w, hG, hc, hv, r => wp_skip ⟨ζ.rv, own, e, h, ζ.ρ, r, hv⟩
  | .label _, ζ, e, h, Q, own, a, w, hG, hc, hv, r => wp_label ⟨ζ.rv, own, e, h, ζ.ρ, r, hv⟩
  | .exit id, ζ, e, h, Q, own, a, w, hG, hc, hv, r => wp_exit ⟨ζ.rv, own, e, h, ζ.ρ, r, hv⟩
  | .ret, ζ, e, h, Q, own, a, w, hG, hc, hv, r => wp_ret ⟨ζ.rv, own, e, h, ζ.ρ, r, hv⟩
  | .seq x y, ζ, e, h, Q, own, a, w, hG, hc, hv, r => by
    simp only [codeB, Bool.and_eq_true] at hc
    refine wp_seq (wp_mono (vc_sound hmix tk x ζ e h _ own a w hG hc.1 hv r) ?_)
    intro ex a' w' hq
    cases ex <;> first
      | exact hq.elim
      | (obtain ⟨rv', own', e', h', ρ', r', hq⟩ := hq; exact vc_sound hmix tk y (ζ.rows ρ' rv') e' h' Q own' a' w' hG hc.2 hq r')
      | exact hq
  | .cond c x y, ζ, e, h, Q, own, a, w, hG, hc, hv, r => by
    simp only [codeB, Bool.and_eq_true] at hc
    simp only [vc] at hv
    unfold condK at hv
    split at hv
    · rename_i t ht
      have h1 := ev_val r (boolOf_spec ht)
      cases t
      · exact wp_cond_false h1 (vc_sound hmix tk y ζ e h Q own a w hG hc.2 hv r)
      · exact wp_cond_true h1 (vc_sound hmix tk x ζ e h Q own a w hG hc.1 hv r)
    · exact hv.elim
  | .block id b, ζ, e, h, Q, own, a, w, hG, hc, hv, r => by
    cases hct : Y.ct.contains id with
    | true =>
      have hv : ∃ J : Ls → Lh → Lr → Prop, vc P G T N Y b e h ζ.ρ (cutX id (fun e h ρ => ∃ l lh lr, J l lh lr ∧ Is l lh lr e h ρ) Q) ∧ ∀ l lh lr, J l lh lr → Q .normal (envL l) (hpL lh) (rwL lr) := by
        have hv' := hv
        simp only [vc, hct] at hv'
        exact hv'
      obtain ⟨J, hv1, hv2⟩ := hv
      refine wp_block (wp_mono (vc_sound hmix tk b ζ e h _ own a w hG hc hv1 r) ?_)
      have fin : ∀ a' w', (∃ rv own e h ρ, R (ζ.rows ρ rv) N own e h a' w' ∧ ∃ l lh lr, J l lh lr ∧ Is l lh lr e h ρ) → ∃ rv own e h ρ, R (ζ.rows ρ rv) N own e h a' w' ∧ Q .normal e h ρ := by
        rintro a' w' ⟨rv', own', e', h', ρ', r', l, lh, lr, hj, his⟩
        have := R.weaken (ζ := ζ.rows ρ' rv') r' his
        exact ⟨rv', own', envL l, hpL lh, rwL lr, this, hv2 l lh lr hj⟩
      intro ex a' w' hq
      cases ex with
      | normal => exact fin a' w' hq
      | exit i =>
        obtain ⟨rv', own', e', h', ρ', r', hq⟩ := hq
        simp only [cutX] at hq
        simp only [Exit.inBlock]
        split
        · rename_i hi
          rw [if_pos hi] at hq
          exact fin a' w' ⟨rv', own', e', h', ρ', r', hq⟩
        · rename_i hi; rw [if_neg hi] at hq; exact ⟨rv', own', e', h', ρ', r', hq⟩
      | _ => exact hq
    | false =>
    have hv : vc P G T N Y b e h ζ.ρ (blockX id Q) := by
      have hv' := hv
      simp only [vc, hct] at hv'
      exact hv'
    refine wp_block (wp_mono (vc_sound hmix tk b ζ e h _ own a w hG hc hv r) ?_)
    intro ex a' w' hq
    cases ex with
    | exit i =>
      obtain ⟨rv', own', e', h', ρ', r', hq⟩ := hq
      simp only [blockX] at hq
      simp only [Exit.inBlock]
      split
      · rename_i hi; rw [if_pos hi] at hq; exact ⟨rv', own', e', h', ρ', r', hq⟩
      · rename_i hi; rw [if_neg hi] at hq; exact ⟨rv', own', e', h', ρ', r', hq⟩
    | _ => exact hq
  | .loop b, ζ, e, h, Q, own, a, w, hG, hc, hv, r => by
    rw [vc] at hv
    obtain ⟨I, ⟨n0, l0, lh0, lr0, hI0, his0⟩, hround⟩ := hv
    let J : Act → World → Nat → Prop := fun a w n => ∃ rv own l lh lr, I n l lh lr ∧ R (ζ.rows (rwL lr) rv) N own (envL l) (hpL lh) a w
    refine wp_loop (fun a w => ∃ n, J a w n) (fun a w => least (J a w)) ⟨n0, ζ.rv, own, l0, lh0, lr0, hI0, r.weaken his0⟩ ?_
    intro a1 w1 hJ
    obtain ⟨⟨rv1, own1, l1, lh1, lr1, hI1, r1⟩, _⟩ := least_spec hJ
    refine wp_mono (vc_sound hmix tk b (ζ.rows (rwL lr1) rv1) _ _ _ own1 a1 w1 hG hc (hround _ l1 lh1 lr1 hI1) r1) ?_
    intro ex a' w' hq
    cases ex <;> first
      | exact hq.elim
      | (obtain ⟨rv', own', e', h', ρ', r', m, l', lh', lr', hlt, hI', his'⟩ := hq
         have hm : J a' w' m := ⟨rv', own', l', lh', lr', hI', R.weaken r' his'⟩
         exact ⟨⟨m, hm⟩, Nat.lt_of_le_of_lt ((least_spec ⟨m, hm⟩).2 m hm) hlt⟩)
      | exact hq
  | .region id ops draw, ζ, e, h, Q, own, a, w, hG, hc, hv, r => by
    simp only [codeB, Bool.and_eq_true] at hc
    obtain ⟨hd, hc⟩ := hc
    have hds : ∀ o ∈ ops.toList, dstOk N o.dst := by
      intro o ho
      have := List.all_eq_true.1 hd o ho
      cases hdst : o.dst with
      | none => trivial
      | some d => rw [hdst] at this; simpa [dstOk] using this
    have hlist : (List.range ops.size).map (fun i => ops[i]!) = ops.toList := by
      apply List.ext_getElem
      · simp
      · intro i h1 h2
        simp at h1
        simp [h1]
    cases draw with
    | false =>
      have hv : vcR P G T N Y (Y.bw.contains id) ops ops.toList e h ζ.ρ (fun e h ρ => Q .normal e h ρ) := hv
      rw [← hlist] at hv
      refine wp_region (vcR_sound tk ops _ ζ e h own a w hG (by simp) ?_ hv r fun ρ' rv' own' e' h' a' w' r' hq => ⟨rv', own', e', h', ρ', r', hq⟩)
      intro i hi
      simp at hi
      rw [getElem!_pos ops i hi]
      exact hds _ (by simp)
    | true =>
      cases hen : enOf Y.en id with
      | some t =>
        have hv : entB ops t = true ∧ vcT P G T N Y (Y.bw.contains id) ops.toList t e h ζ.ρ (fun e h ρ => Q .normal e h ρ) := by
          have hv' := hv
          simp only [vc, hen] at hv'
          exact hv'
        obtain ⟨hb, hv⟩ := hv
        unfold entB at hb
        simp only [Bool.and_eq_true] at hb
        obtain ⟨⟨hb1, hb2⟩, hb3⟩ := hb
        refine wp_region_any hmix ?_
        refine vcT_sound tk ops hb1 (fun c a w hc => hc) ?_ ops.size t ζ e h own a _ _ hG hb3 hb2 hv r.drew fun ρ' rv' own' e' h' a' w' r' hq => ⟨rv', own', e', h', ρ', r', hq⟩
        intro i hi
        rw [getElem!_pos ops i hi]
        exact hds _ (by simp)
      | none =>
      cases htl : tlOf Y.tl id with
      | some Lt =>
        have hv : escK (regEsc Y ops ++ regMov (Y.fz.contains id) ops) e h ζ.ρ (fun e h ρ => orderT Lt (headN ops.toList) ops = true ∧ vcL P G T ρ N ops ((lightI Lt (headN ops.toList) ++ restI Lt (headN ops.toList)).map fun i => ops[i]!) e h (fun e h => vcR P G T N Y false ops (ops.toList.drop (headN ops.toList)) e h ρ fun e h ρ => Q .normal e h ρ)) := by
          have hv' := hv
          simp only [vc, hen, htl] at hv'
          exact hv'
        refine escK_sound _ ζ e h _ r hv ?_
        intro ρ1 e1 h1 r1 hv1
        obtain ⟨hor, hv1⟩ := hv1
        generalize headN ops.toList = na at hor hv1
        have hna : na ≤ ops.size := by
          unfold orderT at hor
          simp only [Bool.and_eq_true, decide_eq_true_eq] at hor
          exact hor.1.1.1.1
        obtain ⟨e', h', g1, g2⟩ := vcL_sound _ e1 h1 _ (fun o ho => by
          obtain ⟨i, hi, rfl⟩ := List.mem_map.1 ho
          have hi2 : i < ops.size := by
            rcases List.mem_append.1 hi with hi | hi
            · have := List.mem_range.1 (List.mem_filter.1 hi).1; omega
            · have := List.mem_range.1 (List.mem_filter.1 hi).1; omega
          rw [getElem!_pos ops i hi2]
          exact hds _ (by simp)) hv1
        rw [← hlist, ← List.map_drop, show (List.range ops.size).drop na = List.range' na (ops.size - na) by rw [List.range_eq_range', List.drop_range']; simp] at g2
        refine wp_region_any hmix ?_
        refine tl_any (ζ := ζ.rows ρ1 ζ.rv) tk hG hor (fun c a w hc => hc) g1 r1.drew ?_
        intro own' a' w' r'
        refine vcR_sound tk ops _ (ζ.rows ρ1 ζ.rv) e' h' own' a' w' hG ?_ ?_ g2 r' fun ρ' rv' own' e' h' a' w' r' hq => ⟨rv', own', e', h', ρ', r', hq⟩
        · intro i hi
          rw [List.mem_range'_1] at hi
          omega
        · intro i hi
          rw [List.mem_range'_1] at hi
          have hi2 : i < ops.size := by omega
          rw [getElem!_pos ops i hi2]
          exact hds _ (by simp)
      | none =>
      have hv : escK (regEsc Y ops ++ regMov (Y.fz.contains id) ops) e h ζ.ρ (fun e h ρ => (Y.ex.contains id = true → orderB (plOf e ops) ops = true) ∧ vcL P G T ρ N ops ops.toList e h (fun e h => Q .normal e h ρ)) := by
        have hv' := hv
        simp only [vc, hen, htl] at hv'
        exact hv'
      refine escK_sound _ ζ e h _ r hv ?_
      intro ρ1 e1 h1 r1 hv1
      obtain ⟨hdr, hv1⟩ := hv1
      obtain ⟨e', h', g1, g2⟩ := vcL_sound ops.toList e1 h1 _ hds hv1
      rw [← hlist] at g1
      have hk : ∀ own' a' w', R (ζ.rows ρ1 ζ.rv) N own' e' h' a' w' → PostX ζ N Q .normal a' w' := fun own' a' w' r' => ⟨ζ.rv, own', e', h', ρ1, r', g2⟩
      refine wp_region_any hmix ?_
      have hor : ∃ pl, orderB pl ops = true ∧ Ag pl (dstsOf ops) e1 := by
        simp only [Bool.not_true, Bool.false_or, Bool.or_eq_true] at hc
        rcases hc with hc | hc
        · exact ⟨_, hdr hc, Ag_plOf ops⟩
        · refine ⟨[], hc, ?_⟩
          intro x nm hx
          unfold placeOf at hx
          split at hx
          · split at hx
            · simp at hx
            · simp at hx
          · cases hx
      obtain ⟨pl, hor, hag⟩ := hor
      refine any_sound (ζ := ζ.rows ρ1 ζ.rv) tk hG hor hk ops.size _ (List.range ops.size) own e1 h1 a _ (by simp) List.pairwise_lt_range ?_ ?_ (by simp) hag g1 r1.drew
      · intro j
        simp only [List.mem_range, Array.getD_eq_getD_getElem?, Array.getElem?_replicate]
        constructor
        · intro hj; exact ⟨hj, by simp [hj]⟩
        · exact fun hj => hj.1
      · intro i o ho hl
        simp only [Array.getD_eq_getD_getElem?, Array.getElem?_replicate] at hl
        split at hl <;> simp at hl
  | .goto _, _, _, _, _, _, _, _, hG, hc, hv, _ => by simp [vc] at hv
  | .scope _, _, _, _, _, _, _, _, hG, hc, hv, _ => by simp [vc] at hv
  | .rangeFunc _ _ _ _, _, _, _, _, _, _, _, hG, hc, hv, _ => by simp [vc] at hv
  | .refuse _, _, _, _, _, _, _, _, hG, hc, hv, _ => by simp [vc] at hv
end
end Go.Sx
